/-
  A log in the store; Len, At, Sync, Append.
  wal.Open, Set.
  wal's Set. NEWPP
-/
import Derived.Test.YtegaflmefmlpgaaGreatDoorWScan
set_option maxRecDepth 20000
set_option linter.unusedVariables false
set_option linter.unusedSimpArgs false
namespace Go.VM
open Go Go.RowKit Go.Proofs

def ownL (g : Nat) (t : Tok) : Nat → Prop := fun j => j = g ∨ t = .at j
/-- A log and its disk. -/
structure WalAt (S : St) (i g : Nat) (D : Dk) (s : List UInt8) (L : List (List UInt8)) (t : Tok) : Prop where
  d : DiskAt S i D
  ex : ∃ v, S.cells g = some [.ptr (some (i, 0)), .str (mkS s), v] ∧ IsSlice BytesR 1 v L t
  lt : g < S.n
  tok : TokOk S t
  no : ∀ j, ownL g t j → ¬ ownD i D j
  sl : s.length ≤ 28
def ownW (i g : Nat) (D : Dk) (t : Tok) : Nat → Prop := fun j => ownD i D j ∨ ownL g t j
theorem WalAt.own_lt {S : St} {i g : Nat} {D : Dk} {s : List UInt8} {L : List (List UInt8)} {t : Tok} (h : WalAt S i g D s L t) {j : Nat} (hj : ownW i g D t j) : j < S.n := by
  rcases hj with hj | rfl | rfl
  · exact h.d.own_lt hj
  · exact h.lt
  · exact h.tok.1
theorem WalAt.tok_ne {S : St} {i g : Nat} {D : Dk} {s : List UInt8} {L : List (List UInt8)} {t : Tok} (h : WalAt S i g D s L t) : t ≠ .at g := by
  obtain ⟨v, hc, _⟩ := h.ex
  exact tok_cells h.tok (hp_cells hc) (by simp)
theorem WalAt.keep {S S' : St} {i g : Nat} {D : Dk} {s : List UInt8} {L : List (List UInt8)} {t : Tok} {o : Nat → Prop} (h : WalAt S i g D s L t) (k : Keeps o S S') (ho : ∀ j, ownW i g D t j → ¬ o j) : WalAt S' i g D s L t := by
  obtain ⟨v, hc, hv⟩ := h.ex
  exact ⟨h.d.keep k fun j hj => ho j (.inl hj), ⟨v, k.cells hc h.lt (ho g (.inr (.inl rfl))), hv⟩, k.lt h.lt, h.tok.keep k fun j hj => ho j (.inr (.inr hj)), h.no, h.sl⟩
theorem WalAt.stay {S S' : St} {i g : Nat} {D : Dk} {s : List UInt8} {L : List (List UInt8)} {t : Tok} (h : WalAt S i g D s L t) (k : Keeps (fun _ => False) S S') : WalAt S' i g D s L t := h.keep k fun _ _ => id
/-- The disk has turned; the log has not. -/
theorem WalAt.after {S S' : St} {i g : Nat} {D D' : Dk} {s : List UInt8} {L : List (List UInt8)} {t : Tok} (h : WalAt S i g D s L t) (a : After S i D S' D') : WalAt S' i g D' s L t := by
  obtain ⟨v, hc, hv⟩ := h.ex
  refine ⟨a.d, ⟨v, a.cells hc h.lt (h.no g (.inl rfl)), hv⟩, a.k.lt h.lt, h.tok.keep a.k fun j hj => h.no j (.inr hj), fun j hj => ?_, h.sl⟩
  exact a.no (h.own_lt (.inr hj)) (h.no j hj)
/-- A log and its disk behind some calls. -/
structure WAfter (S : St) (i g : Nat) (D : Dk) (t : Tok) (S' : St) (D' : Dk) (t' : Tok) (s : List UInt8) (L' : List (List UInt8)) : Prop where
  w : WalAt S' i g D' s L' t'
  k : Keeps (ownW i g D t) S S'
  o : ∀ j, ownW i g D' t' j → ownW i g D t j ∨ S.n ≤ j
theorem WAfter.refl {S : St} {i g : Nat} {D : Dk} {s : List UInt8} {L : List (List UInt8)} {t : Tok} (h : WalAt S i g D s L t) : WAfter S i g D t S D t s L := ⟨h, Keeps.refl _ _, fun _ h => .inl h⟩
theorem WAfter.trans {S S1 S2 : St} {i g : Nat} {D D1 D2 : Dk} {s : List UInt8} {L1 L2 : List (List UInt8)} {t t1 t2 : Tok} (h : WAfter S i g D t S1 D1 t1 s L1) (h' : WAfter S1 i g D1 t1 S2 D2 t2 s L2) : WAfter S i g D t S2 D2 t2 s L2 :=
  ⟨h'.w, h.k.trans h'.k fun j hj ho => (h.o j ho).elim id fun h => by omega, fun j hj => (h'.o j hj).elim (h.o j) fun h1 => .inr (Nat.le_trans h.k.n h1)⟩
theorem WAfter.new {S S1 : St} {i g : Nat} {D : Dk} {s : List UInt8} {L : List (List UInt8)} {t : Tok} (h : WalAt S i g D s L t) (k : Keeps (fun _ => False) S S1) : WAfter S i g D t S1 D t s L := ⟨h.stay k, k.mono fun _ _ h => h.elim, fun _ h => .inl h⟩
theorem WAfter.disk {S S1 : St} {i g : Nat} {D D1 : Dk} {s : List UInt8} {L : List (List UInt8)} {t : Tok} (h : WalAt S i g D s L t) (a : After S i D S1 D1) : WAfter S i g D t S1 D1 t s L :=
  ⟨h.after a, a.k.mono fun _ _ h => .inl h, fun j hj => hj.elim (fun h => (a.o j h).elim (fun h => .inl (.inl h)) .inr) fun h => .inl (.inr h)⟩

/-- The log's records are others. -/
theorem WalAt.put {S S4 : St} {i g : Nat} {D : Dk} {s : List UInt8} {L L' : List (List UInt8)} {t t4 : Tok} {v4 : V} {o : Nat → Prop} (h : WalAt S i g D s L t) (k : Keeps o S S4) (ho : ∀ j, j < S.n → o j → ownL g t j) (hv : IsSlice BytesR 1 v4 L' t4) (ht : TokOk S4 t4) (hn : ∀ j, t4 = .at j → S.n ≤ j) :
    WAfter S i g D t (S4.set g (.cells [.ptr (some (i, 0)), .str (mkS s), v4])) D t4 s L' := by
  have k5 : Keeps (fun j => j = g) S4 (S4.set g (.cells [.ptr (some (i, 0)), .str (mkS s), v4])) := Keeps.set1 _ _ _
  have hg := h.lt
  have kk : Keeps (ownL g t) S (S4.set g (.cells [.ptr (some (i, 0)), .str (mkS s), v4])) := (k.mono ho).set (.inl (.inl rfl)) _
  have hng : ∀ j, t4 = .at j → ¬ j = g := fun j hj e => by have := hn j hj; omega
  refine ⟨⟨h.d.keep kk fun j hj h' => h.no j h' hj, ⟨v4, by rw [cells_setc, if_pos rfl], hv⟩, kk.lt hg, ht.keep k5 hng, fun j hj hd => ?_, h.sl⟩, kk.mono fun _ _ h => .inr h, fun j hj => ?_⟩
  · rcases hj with rfl | hj
    · exact h.no _ (.inl rfl) hd
    · have := h.d.own_lt hd
      have := hn j hj
      omega
  · rcases hj with hj | rfl | hj
    · exact .inl (.inl hj)
    · exact .inl (.inr (.inl rfl))
    · exact .inr (hn j hj)
/-! ### Len, At -/
theorem logLen_nil {w0 : World} {S : St} {Q : AEnd → St → Prop} (hQ : Q (.ret (.int .i64 0)) S) : RSim Tryz.prog w0 n_wal_Log_Len [.ptr none] S Q := by
  refine RSim.run mixed k_wal_Log_Len ?_ (by simp)
  simp only [b_wal_Log_Len, go_sem]
  refine wc_ite (b := true) (by simp only [go_sem] <;> rfl) (fun _ => ?_) (fun h => by cases h)
  simp only [go_sem]
  exact hQ
theorem logLen_runs {w0 : World} {S : St} {Q : AEnd → St → Prop} {i g : Nat} {D : Dk} {s : List UInt8} {L : List (List UInt8)} {t : Tok} (h : WalAt S i g D s L t) (hQ : Q (.ret (.int .i64 L.length)) S) :
    RSim Tryz.prog w0 n_wal_Log_Len [.ptr (some (g, 0))] S Q := by
  obtain ⟨v, hc, hv⟩ := h.ex
  obtain ⟨cs, rfl⟩ := hv.len
  refine RSim.run mixed k_wal_Log_Len ?_ (by simp)
  simp only [b_wal_Log_Len, go_sem]
  refine wc_ite (b := false) (by simp only [go_sem] <;> rfl) (fun h => by cases h) (fun _ => ?_)
  simp only [go_sem, hc]
  exact hQ
theorem logAt_runs {w0 : World} {S : St} {Q : AEnd → St → Prop} {i g j : Nat} {D : Dk} {s : List UInt8} {L : List (List UInt8)} {t : Tok} {r : List UInt8} (h : WalAt S i g D s L t) (hr : L[j]? = some r) (hl : r.length ≤ 100000000000000)
    (hQ : ∀ S' v, IsBytes v r → Keeps (fun _ => False) S S' → Q (.ret (.tup [v, .int .i64 0])) S') : RSim Tryz.prog w0 n_wal_Log_At [.ptr (some (g, 0)), .int .i64 j] S Q := by
  obtain ⟨v, hc, hv⟩ := id h.ex
  obtain ⟨cs, rfl⟩ := hv.len
  have hj := (List.getElem?_eq_some_iff.1 hr).1
  obtain ⟨vr, rest, hd, hvr, htn, hjn⟩ := hv.get hr
  have e0 : decide ((j : Int) < 0) = false := decide_eq_false (by omega)
  have e1 : decide ((j : Int) ≥ (L.length : Int)) = false := decide_eq_false (by omega)
  refine RSim.run mixed k_wal_Log_At ?_ (by simp)
  simp only [b_wal_Log_At, go_sem, e0]
  refine wi_call ?_
  simp only [go_sem]
  refine logLen_runs h ?_
  simp only [go_sem, e1]
  refine wc_ite (b := false) (by simp only [go_sem] <;> rfl) (fun h => by cases h) (fun _ => ?_)
  simp only [go_sem, hc, htn, hjn, hd]
  refine wi_appendB (S0 := S) (bs := []) (cs := r) (t := .nil) (by simp only [go_sem]) rfl (by simp only [go_sem]; exact hvr.elems _) (by simp; omega) (Keeps.refl _ _) trivial (fun j h => by cases h) (fun _ => rfl) fun t1 S1 k1 ht1 ho1 hz1 => ?_
  simp only [go_sem]
  exact hQ S1 _ ⟨t1, rfl, hz1⟩ k1

/-! ### Sync, Append -/
def DS.syncL (D : DS) (s : List UInt8) (L : List (List UInt8)) : Int × DS := (if (D.sync s).1 = 8 ∧ L = [] then 0 else (D.sync s).1, (D.sync s).2)
theorem logSync_runs {w0 : World} {S : St} {Q : AEnd → St → Prop} {i g : Nat} {D : Dk} {s : List UInt8} {L : List (List UInt8)} {t : Tok} (h : WalAt S i g D s L t)
    (hQ : ∀ S' D', WAfter S i g D t S' D' t s L → D'.abs = (D.abs.syncL s L).2 → Q (.ret (.int .i64 (D.abs.syncL s L).1)) S') : RSim Tryz.prog w0 n_wal_Log_Sync [.ptr (some (g, 0))] S Q := by
  obtain ⟨v, hc, hv⟩ := id h.ex
  obtain ⟨cs, rfl⟩ := hv.len
  have hsl := h.sl
  refine RSim.run mixed k_wal_Log_Sync ?_ (by simp)
  simp only [b_wal_Log_Sync, go_sem]
  refine wc_ite (b := false) (by simp only [go_sem] <;> rfl) (fun h => by cases h) (fun _ => ?_)
  simp only [go_sem, hc]
  refine wi_call ?_
  simp only [go_sem]
  refine sync_runs h.d (by omega) fun S1 D1 d1 a1 k1 o1 => ?_
  have A1 : After S i D S1 D1 := ⟨d1, k1, o1⟩
  have hc1 := A1.cells hc h.lt (h.no g (.inl rfl))
  have hq := hQ S1 D1 (WAfter.disk h A1) a1
  simp only [DS.syncL] at hq
  generalize (D.abs.sync s).1 = e at *
  by_cases h8 : e = 8
  · have q8 : (e == 8) = true := by simpa using h8
    by_cases hL : L = []
    · subst hL
      rw [if_pos ⟨h8, rfl⟩] at hq
      simp only [go_sem, q8, hc1, List.length_nil, Int.natCast_zero]
      refine wc_ite (b := true) (by simp only [go_sem] <;> rfl) (fun _ => ?_) (fun h => by cases h)
      simp only [go_sem]
      exact hq
    · have ql : ((L.length : Int) == 0) = false := by
        have : L.length ≠ 0 := fun h => hL (List.eq_nil_of_length_eq_zero h)
        rw [beq_eq_false_iff_ne]; omega
      rw [if_neg (fun h => hL h.2)] at hq
      simp only [go_sem, q8, hc1, ql]
      refine wc_ite (b := false) (by simp only [go_sem] <;> rfl) (fun h => by cases h) (fun _ => ?_)
      simp only [go_sem]
      exact hq
  · have q8 : (e == 8) = false := by simpa using h8
    rw [if_neg (fun h => h8 h.1)] at hq
    simp only [go_sem, q8]
    refine wc_ite (b := false) (by simp only [go_sem] <;> rfl) (fun h => by cases h) (fun _ => ?_)
    simp only [go_sem]
    exact hq

theorem logAppend_runs {w0 : World} {S : St} {Q : AEnd → St → Prop} {i g : Nat} {D : Dk} {s r : List UInt8} {L : List (List UInt8)} {t : Tok} {vr : V} (h : WalAt S i g D s L t) (hr : IsBytes vr r) (hLl : L.length ≤ 1000000000000)
    (hlong : 65535 < r.length → Q (.ret (.int .i64 2)) S)
    (hbad : ∀ S' D', r.length ≤ 65535 → WAfter S i g D t S' D' t s L → D'.abs = (D.abs.grow s (frameB r) false).2 → (D.abs.grow s (frameB r) false).1 ≠ 0 → Q (.ret (.int .i64 (D.abs.grow s (frameB r) false).1)) S')
    (hQ : ∀ S' D' t', r.length ≤ 65535 → WAfter S i g D t S' D' t' s (L ++ [r]) → D'.abs = (D.abs.grow s (frameB r) false).2 → (D.abs.grow s (frameB r) false).1 = 0 → Q (.ret (.int .i64 0)) S') :
    RSim Tryz.prog w0 n_wal_Log_Append [.ptr (some (g, 0)), vr] S Q := by
  obtain ⟨v, hc, hv⟩ := id h.ex
  obtain ⟨cs, rfl⟩ := hv.len
  have hsl := h.sl
  refine RSim.run mixed k_wal_Log_Append ?_ (by simp)
  simp only [b_wal_Log_Append, go_sem]
  refine wc_ite (b := false) (by simp only [go_sem] <;> rfl) (fun h => by cases h) (fun _ => ?_)
  simp only [go_sem]
  refine wi_call ?_
  simp only [go_sem]
  refine frame_runs hr (fun hr65 S1 v1 hv1 k1 => ?_) fun hr65 => ?_
  · simp only [go_sem]
    refine wc_ite (b := false) (by simp only [go_sem] <;> rfl) (fun h => by cases h) (fun _ => ?_)
    have W1 := WAfter.new h k1
    have hc1 := k1.cells hc h.lt id
    have hfl : (frameB r).length ≤ 1000000 := by
      have := uvar_len10 (v := r.length) (by omega)
      simp [frameB, fourB_len]; omega
    simp only [go_sem, hc1]
    refine wi_call ?_
    simp only [go_sem]
    refine append_runs W1.w.d (by omega) (hv1.into _ _) (by omega) fun S2 D2 d2 a2 k2 o2 => ?_
    have W2 := WAfter.disk W1.w ⟨d2, k2, o2⟩
    have hb := fun hne => hbad S2 D2 hr65 (W1.trans W2) a2 hne
    have hq := hQ
    generalize he : (D.abs.grow s (frameB r) false).1 = e at *
    by_cases h0 : e ≠ 0
    · have q0 : (e != 0) = true := by simpa using h0
      simp only [go_sem, q0]
      refine wc_ite (b := true) (by simp only [go_sem] <;> rfl) (fun _ => ?_) (fun h => by cases h)
      simp only [go_sem]
      exact hb h0
    · have q0 : (e != 0) = false := by simpa using h0
      have hc2 := After.cells (S' := S2) (D' := D2) ⟨d2, k2, o2⟩ hc1 W1.w.lt (W1.w.no g (.inl rfl))
      simp only [go_sem, q0]
      refine wc_ite (b := false) (by simp only [go_sem] <;> rfl) (fun h => by cases h) (fun _ => ?_)
      simp only [go_sem, hc2]
      refine wi_appendB (S0 := S2) (bs := []) (cs := r) (t := .nil) (by simp only [go_sem]) rfl (by simp only [go_sem]; exact hr.elems _) (by simp; omega) (Keeps.refl _ _) trivial (fun j h => by cases h) (fun _ => rfl) fun t3 S3 k3 ht3 ho3 hz3 => ?_
      have W3 := WAfter.new W2.w k3
      have hc3 := k3.cells hc2 W2.w.lt id
      simp only [go_sem, hc3]
      refine wi_appendR (R := BytesR) (v := .sl cs L.length 1 t) (l := L) (y := r) (c := [_]) (t := t) (by simp only [go_sem]) hv (by simp only [go_sem]; exact elems1 _ _ _ (by simp)) rfl ⟨_, rfl, ⟨t3, rfl, hz3⟩⟩ (by omega) W3.w.tok fun t4 S4 v4 hs4 k4 ht4 hn4 hz4 => ?_
      have h1 := hs4.one
      have h2 : v4.cells = [v4] := by obtain ⟨cs4, rfl⟩ := hs4.len; rfl
      have hc4 := k4.cells hc3 W3.w.lt fun h' => (W3.w.tok_ne h')
      have hsp : splice [V.ptr (some (i, 0)), V.str (mkS s), V.sl cs L.length 1 t] 2 [v4] = [.ptr (some (i, 0)), .str (mkS s), v4] := rfl
      simp only [go_sem, hc4, h1, h2, hsp]
      have W5 := W3.w.put k4 (fun j _ h => .inr h) hs4 ht4 hn4
      exact hq _ D2 t4 hr65 (W1.trans (W2.trans (W3.trans W5))) a2 (by simpa using h0)
  · simp only [go_sem]
    refine wc_ite (b := true) (by simp only [go_sem] <;> rfl) (fun _ => ?_) (fun h => by cases h)
    simp only [go_sem]
    exact hlong hr65
end Go.VM

namespace Go.VM
open Go Go.RowKit Go.Proofs

def DS.opened (D : DS) (s : List UInt8) : DS := (D.remove (newN s)).2
/-- Behind Open: the log is a new one. -/
structure OAfter (S : St) (i : Nat) (D : Dk) (S' : St) (g : Nat) (D' : Dk) (t' : Tok) (s : List UInt8) (L : List (List UInt8)) : Prop where
  w : WalAt S' i g D' s L t'
  k : Keeps (ownD i D) S S'
  o : ∀ j, ownW i g D' t' j → ownD i D j ∨ S.n ≤ j

theorem open_runs {w0 : World} {S : St} {Q : AEnd → St → Prop} {i : Nat} {D : Dk} {s : List UInt8} (d : DiskAt S i D) (hs : nameOk s = true) (hsl : s.length ≤ 28)
    (hE1 : (D.abs.remove (newN s)).1 = 0 ∨ (D.abs.remove (newN s)).1 = 8) (hE2 : (D.abs.opened s).readE s = 0 ∨ (D.abs.opened s).readE s = 8) (hb : ((D.abs.opened s).bytes s).length ≤ 1000000000)
    (hfull : ∀ L n, Scans ((D.abs.opened s).bytes s) L n → n < ((D.abs.opened s).bytes s).length → ((D.abs.opened s).writeL s L).1 = 0 ∧ (fileB L).length ≤ 10000000000000 ∧ L.length ≤ 10000000000000)
    (hQ : ∀ S' D' g t L n, Scans ((D.abs.opened s).bytes s) L n → n ≤ ((D.abs.opened s).bytes s).length → OAfter S i D S' g D' t s L → D'.abs = (if n < ((D.abs.opened s).bytes s).length then ((D.abs.opened s).writeL s L).2 else D.abs.opened s) → Q (.ret (.tup [.ptr (some (g, 0)), .int .i64 0])) S') :
    RSim Tryz.prog w0 n_wal_Open [.ptr (some (i, 0)), .str (mkS s)] S Q := by
  have hadd : binStr .add (mkS s) (mkS [46, 110, 101, 119]) = some (.str (mkS (newN s))) := str_add' (by simp; omega)
  have hnl : (newN s).length ≤ 1000000000000000 := by simp [newN]; omega
  have e28 : decide ((s.length : Int) > 28) = false := decide_eq_false (by omega)
  refine RSim.run mixed k_wal_Open ?_ (by simp)
  simp only [b_wal_Open, go_sem]
  refine wc_ite (b := false) (by simp only [go_sem] <;> rfl) (fun h => by cases h) (fun _ => ?_)
  simp only [go_sem]
  refine wi_call ?_
  simp only [go_sem]
  refine diskName_runs (by omega) ?_
  rw [hs]
  simp only [go_sem, e28]
  refine wc_ite (b := false) (by simp only [go_sem] <;> rfl) (fun h => by cases h) (fun _ => ?_)
  simp only [r_wal_Open_2, go_sem, hadd]
  refine wi_call ?_
  simp only [go_sem]
  refine remove_runs d hnl fun S1 D1 d1 a1 k1 o1 => ?_
  have A1 : After S i D S1 D1 := ⟨d1, k1, fun j hj => .inl (o1 j hj)⟩
  have a1' : D1.abs = D.abs.opened s := a1
  have go : ∀ fr : Fr, fr 0 = .ptr (some (i, 0)) → fr 1 = .str (mkS s) → wCode (RSim Tryz.prog w0) r_wal_Open_1 fr S1 (resQ [.tmp 4, .tmp 5] Q) := fun fr f0 f1 => by
    simp only [r_wal_Open_1, go_sem, f0, f1]
    refine wi_call ?_
    simp only [go_sem]
    refine read_abs d1 (by omega) fun S2 p hp k2 => ?_
    rw [a1'] at hp ⊢
    have go2 : ∀ fr : Fr, fr 0 = .ptr (some (i, 0)) → fr 1 = .str (mkS s) → fr 7 = p → wCode (RSim Tryz.prog w0) r_wal_Open_0 fr S2 (resQ [.tmp 4, .tmp 5] Q) := fun fr f0 f1 f7 => by
      simp only [r_wal_Open_0, go_sem, f0, f1, f7]
      refine wi_call ?_
      simp only [go_sem]
      refine scan_runs hp (by omega) fun S3 v L n t hsc hv ht hn hle k3 => ?_
      have h1 := hv.one
      have h2 : v.cells = [v] := by obtain ⟨cs4, rfl⟩ := hv.len; rfl
      obtain ⟨tp, rfl, htp⟩ := id hp
      simp only [go_sem, f0, f1, f7, h1, h2]
      generalize hS4 : S3.add (.cells [.ptr (some (i, 0)), .str (mkS s), v]) = S4
      have c4 : S4.cells S3.n = some [.ptr (some (i, 0)), .str (mkS s), v] := by rw [← hS4]; simp only [go_sem]
      have k4 : Keeps (fun _ => False) S3 S4 := by rw [← hS4]; exact (Keeps.refl _ _).add _
      have n4 : S3.n < S4.n := by rw [← hS4]; simp only [go_sem]; omega
      have A4 : After S i D S4 D1 := (A1.trans (After.new d1 k2)).trans ((After.new (d1.stay k2) k3).trans (After.new ((d1.stay k2).stay k3) k4))
      have ht4 : TokOk S4 t := ht.keep k4 fun _ _ => id
      have hown : ∀ j, ownD i D1 j → j < S1.n := fun j hj => d1.own_lt hj
      have hn1 : S1.n ≤ S2.n := k2.n
      have hn2 : S2.n ≤ S3.n := k3.n
      have hn0 : S.n ≤ S1.n := k1.n
      have W4 : WalAt S4 i S3.n D1 s L t := ⟨A4.d, ⟨v, c4, hv⟩, n4, ht4, fun j hj hd => by
        have := hown j hd
        rcases hj with rfl | hj
        · omega
        · have := hn j hj; omega, hsl⟩
      have O4 : OAfter S i D S4 S3.n D1 t s L := ⟨W4, A4.k, fun j hj => by
        rcases hj with hj | rfl | hj
        · exact A4.o j hj
        · exact .inr (by omega)
        · have := hn j hj; exact .inr (by omega)⟩
      by_cases hlt : n < ((D.abs.opened s).bytes s).length
      · have q1 : decide ((n : Int) < (((D.abs.opened s).bytes s).length : Int)) = true := decide_eq_true (by omega)
        obtain ⟨hw, hb1, hb2⟩ := hfull L n hsc hlt
        simp only [go_sem, q1]
        refine wc_ite (b := true) (by simp only [go_sem] <;> rfl) (fun _ => ?_) (fun h => by cases h)
        simp only [go_sem]
        refine wi_call ?_
        simp only [go_sem]
        refine write_runs W4.d c4 n4 (W4.no _ (.inl rfl)) (by omega) hv hb1 hb2 fun S5 D5 A5 a5 => ?_
        rw [a1'] at a5 ⊢
        rw [hw]
        simp only [go_sem]
        refine wc_ite (b := false) (by simp only [go_sem] <;> rfl) (fun h => by cases h) (fun _ => ?_)
        simp only [go_sem]
        have W5 := W4.after A5
        refine hQ S5 D5 S3.n t L n hsc hle ⟨W5, (A4.trans A5).k, fun j hj => ?_⟩ (by rw [if_pos hlt]; exact a5)
        rcases hj with hj | hj
        · exact (A4.trans A5).o j hj
        · exact O4.o j (.inr hj)
      · have q1 : decide ((n : Int) < (((D.abs.opened s).bytes s).length : Int)) = false := decide_eq_false (by omega)
        simp only [go_sem, q1]
        refine wc_ite (b := false) (by simp only [go_sem] <;> rfl) (fun h => by cases h) (fun _ => ?_)
        simp only [go_sem]
        exact hQ S4 D1 S3.n t L n hsc hle O4 (by rw [if_neg hlt]; exact a1')
    rcases hE2 with he | he
    · rw [he]
      simp only [go_sem]
      refine wc_ite (b := false) (by simp only [go_sem] <;> rfl) (fun h => by cases h) (fun _ => ?_)
      simp only [wc_skip, seqQ_normal]
      exact go2 _ (by simp only [go_sem, f0]) (by simp only [go_sem, f1]) (by simp only [go_sem])
    · rw [he]
      simp only [go_sem]
      refine wc_ite (b := false) (by simp only [go_sem] <;> rfl) (fun h => by cases h) (fun _ => ?_)
      simp only [wc_skip, seqQ_normal]
      exact go2 _ (by simp only [go_sem, f0]) (by simp only [go_sem, f1]) (by simp only [go_sem])
  rcases hE1 with he | he
  · rw [he]
    simp only [go_sem]
    refine wc_ite (b := false) (by simp only [go_sem] <;> rfl) (fun h => by cases h) (fun _ => ?_)
    simp only [wc_skip, seqQ_normal]
    exact go _ (by simp only [go_sem]) (by simp only [go_sem])
  · rw [he]
    simp only [go_sem]
    refine wc_ite (b := false) (by simp only [go_sem] <;> rfl) (fun h => by cases h) (fun _ => ?_)
    simp only [wc_skip, seqQ_normal]
    exact go _ (by simp only [go_sem]) (by simp only [go_sem])
end Go.VM

namespace Go.VM
open Go Go.RowKit Go.Proofs

/-- The first things of a slice. -/
theorem IsSlice.take {α : Type} {R : List V → α → Prop} {sz : Nat} {cs : List V} {n : Nat} {L : List α} {t : Tok} (h : IsSlice R sz (.sl cs n sz t) L t) {k : Nat} (hk : k ≤ L.length) (ht : t ≠ .nil) {t' : Tok} (ht' : t' ≠ .nil) :
    IsSlice R sz (.sl (cs.take (k * sz)) k sz t') (L.take k) t' := by
  obtain ⟨C, e, hn, hs, hl, hR⟩ := h.ex
  injection e with e1 e2
  subst e1; subst e2
  have key : ∀ (k : Nat) (C : List (List V)), (∀ c ∈ C, c.length = sz) → C.flatten.take (k * sz) = (C.take k).flatten := by
    intro k
    induction k with
    | zero => intro C _; simp
    | succ k ih =>
      intro C hC
      cases C with
      | nil => simp
      | cons c C =>
        have h1 := hC c (by simp)
        rw [List.flatten_cons, List.take_succ_cons, List.flatten_cons, ← ih C fun c hc => hC c (by simp [hc]), List.take_append, List.take_of_length_le (by rw [h1, Nat.succ_mul]; omega), h1, Nat.succ_mul, Nat.add_sub_cancel]
  have hkl : (L.take k).length = k := by rw [List.length_take]; omega
  refine ⟨C.take k, by rw [key k C hs, hkl], fun e => absurd e ht', fun c hc => hs c (List.mem_of_mem_take hc), by rw [List.length_take, List.length_take, hl], fun j c x hc hx => ?_⟩
  rw [List.getElem?_take] at hc hx
  split at hc
  · rw [if_pos ‹_›] at hx; exact hR j c x hc hx
  · cases hc
theorem IsSlice.nilTok {α : Type} {R : List V → α → Prop} {sz : Nat} {cs : List V} {n : Nat} {L : List α} {t : Tok} (h : IsSlice R sz (.sl cs n sz t) L t) (ht : t = .nil) : cs = [] ∧ n = 0 ∧ L = [] := by
  obtain ⟨C, e, hn, hs, hl, hR⟩ := h.ex
  injection e with e1 e2
  have := hn ht
  subst this
  have : C = [] := List.eq_nil_of_length_eq_zero hl
  subst this
  exact ⟨e1, e2, rfl⟩
/-- A copy of a slice's things: append to nil. -/
theorem wi_appendL {cl : Cl} {fr : Fr} {S : St} {K : Fr → St → Prop} {Kp : V → St → Prop} {dst : Option Nat} {bytes : Nat} {s x : Arg} {r : List Item} {v w : V} {L M : List (List UInt8)} {t tm : Tok}
    (hs : s.ev fr = v) (hv : IsSlice BytesR 1 v L t) (hx : x.ev fr = w) (hw : IsSlice BytesR 1 w M tm) (hr : (L.length + M.length) * bytes ≤ 140737488355328) (ht : TokOk S t)
    (hK : ∀ t' S' v', IsSlice BytesR 1 v' (L ++ M) t' → Keeps (tokOwn t) S S' → TokOk S' t' → (∀ j, t' = .at j → S.n ≤ j) → wItems cl r (fr.put dst v') S' K Kp) :
    wItems cl (.run ⟨dst, none, .e (.append 1 bytes false s x)⟩ :: r) fr S K Kp := by
  obtain ⟨cs, rfl⟩ := hv.len
  obtain ⟨ms, rfl⟩ := hw.len
  obtain ⟨C, e, hn, hsz, hl, hR⟩ := hv.ex
  obtain ⟨C', e', hn', hsz', hl', hR'⟩ := hw.ex
  injection e with e1 _
  injection e' with e1' _
  have one : ∀ C : List (List V), (∀ c ∈ C, c.length = 1) → C.flatten.length = C.length := by
    intro C
    induction C with
    | nil => intro _; rfl
    | cons c C ih => intro h; rw [List.flatten_cons, List.length_append, h c (by simp), ih fun c hc => h c (by simp [hc]), List.length_cons]; omega
  have lm : ms.length = M.length := by rw [e1', one C' hsz', hl']
  have hel : (x.ev fr).elems S 1 = some (M.length, ms) := by
    rw [hx]
    by_cases h0 : tm = .nil
    · obtain ⟨rfl, h2, rfl⟩ := hw.nilTok h0
      subst h0; rfl
    · simp only [V.elems, h0, if_false]
      simp
  refine wi_append (n := L.length) (cs := cs) (t := t) (m := M.length) (xs := ms) hs hel (by omega) (by simp only [roomOk, decide_eq_true_eq]; exact hr) ht (fun e => ?_) fun t' S' k' ht' hn'' hz => ?_
  · obtain ⟨h1, h2, h3⟩ := hv.nilTok e
    exact ⟨h1, h2⟩
  · refine hK t' S' _ ⟨C ++ C', by rw [e1, e1', List.flatten_append, List.length_append], fun e => ?_, fun c hc => ?_, by rw [List.length_append, List.length_append, hl, hl'], fun j c x hc hx => ?_⟩ k' ht' hn''
    · obtain ⟨h1, h2⟩ := hz e
      rw [hn h2, List.eq_nil_of_length_eq_zero h1]; rfl
    · rcases List.mem_append.1 hc with hc | hc
      · exact hsz c hc
      · exact hsz' c hc
    · rcases Nat.lt_or_ge j C.length with h | h
      · rw [List.getElem?_append_left h] at hc
        rw [List.getElem?_append_left (by omega)] at hx
        exact hR j c x hc hx
      · rw [List.getElem?_append_right h] at hc
        rw [List.getElem?_append_right (by omega), ← hl] at hx
        exact hR' _ c x hc hx

theorem logSet_runs {w0 : World} {S : St} {Q : AEnd → St → Prop} {i g k : Nat} {D : Dk} {s : List UInt8} {L M : List (List UInt8)} {t tm : Tok} {vm : V} (h : WalAt S i g D s L t) (hk : k ≤ L.length) (hm : IsSlice BytesR 1 vm M tm) (hM : ∀ r ∈ M, r.length ≤ 100000000000000)
    (hb : (fileB (L.take k ++ M)).length ≤ 10000000000000) (hll : L.length + M.length ≤ 1000000000000)
    (hbad : ∀ S' D', WAfter S i g D t S' D' t s L → D'.abs = (D.abs.writeL s (L.take k ++ M)).2 → (D.abs.writeL s (L.take k ++ M)).1 ≠ 0 → Q (.ret (.int .i64 (D.abs.writeL s (L.take k ++ M)).1)) S')
    (hQ : ∀ S' D' t', WAfter S i g D t S' D' t' s (L.take k ++ M) → D'.abs = (D.abs.writeL s (L.take k ++ M)).2 → (D.abs.writeL s (L.take k ++ M)).1 = 0 → Q (.ret (.int .i64 0)) S') :
    RSim Tryz.prog w0 n_wal_Log_Set [.ptr (some (g, 0)), .int .i64 k, vm] S Q := by
  obtain ⟨v, hcc, hv⟩ := id h.ex
  obtain ⟨cs, rfl⟩ := hv.len
  obtain ⟨ms, rfl⟩ := hm.len
  have hsl := h.sl
  have e0 : decide ((k : Int) < 0) = false := decide_eq_false (by omega)
  have e1 : decide ((k : Int) > (L.length : Int)) = false := decide_eq_false (by omega)
  refine RSim.run mixed k_wal_Log_Set ?_ (by simp)
  simp only [b_wal_Log_Set, go_sem]
  refine wc_ite (b := false) (by simp only [go_sem] <;> rfl) (fun h => by cases h) (fun _ => ?_)
  simp only [go_sem, e0, hcc, e1]
  refine wc_ite (b := false) (by simp only [go_sem] <;> rfl) (fun h => by cases h) (fun _ => ?_)
  have hkl : (L.take k).length = k := by rw [List.length_take]; omega
  have hkt : (k ≤ L.length) = True := eq_true hk
  simp only [go_sem, hcc, hkt]
  have hv1 : IsSlice BytesR 1 (if t = .nil then .sl cs L.length 1 t else .sl (cs.take ((k - 0) * 1)) (k - 0) 1 (if k = L.length then t else .no)) (L.take k) (if t = .nil then .nil else if k = L.length then t else .no) := by
    by_cases h0 : t = .nil
    · obtain ⟨rfl, h1, rfl⟩ := hv.nilTok h0
      rw [if_pos h0, if_pos h0, h0]
      simpa using isSlice_nil BytesR 1
    · rw [if_neg h0, if_neg h0, Nat.sub_zero]
      exact hv.take hk h0 (by split <;> simp [h0])
  generalize (if t = .nil then V.sl cs L.length 1 t else V.sl (cs.take ((k - 0) * 1)) (k - 0) 1 (if k = L.length then t else .no)) = v1 at hv1 ⊢
  refine wi_appendL (L := []) (M := L.take k) (v := .sl [] 0 1 .nil) (w := v1) (by simp only [go_sem]) (isSlice_nil BytesR 1) (by simp only [go_sem]) hv1 (by rw [hkl]; simp; omega) trivial fun t2 S2 v2 hv2 k2 ht2 hn2 => ?_
  rw [List.nil_append] at hv2
  simp only [go_sem]
  refine loop_rule RSim.le (k := M.length) (fun m fr S1 => ∃ (j : Nat) (v' : V) (t' : Tok), m = M.length - j ∧ j ≤ M.length ∧ fr 0 = .ptr (some (g, 0)) ∧ fr 7 = v' ∧ fr 31 = .sl ms M.length 1 tm ∧ fr 32 = .int .i64 M.length ∧ fr 33 = .int .i64 j ∧ IsSlice BytesR 1 v' (L.take k ++ M.take j) t' ∧
      Keeps (fun _ => False) S S1 ∧ TokOk S1 t' ∧ (∀ j, t' = .at j → S.n ≤ j)) ?_
    ⟨0, v2, t2, rfl, by omega, by simp only [go_sem], by simp only [go_sem], by simp only [go_sem], by simp only [go_sem], by simp only [go_sem]; rfl, by simpa using hv2, k2.mono (fun j _ h => (by cases h)), ht2, hn2⟩
  rintro m fr S1 ⟨j, v', t', hm', hj, f0, f7, f31, f32, f33, hv', k1, ht', ho'⟩
  simp only [l_wal_Log_Set_0, go_sem, f0, f7, f31, f32, f33]
  refine wc_ite (b := decide ((j : Int) < (M.length : Int))) (by simp only [go_sem]) (fun hc => ?_) (fun hc => ?_)
  · have hlt : j < M.length := by have := of_decide_eq_true ‹_›; omega
    obtain ⟨r, hr⟩ : ∃ r, M[j]? = some r := ⟨M[j], List.getElem?_eq_getElem hlt⟩
    obtain ⟨v, rest, hd, hvr, htn, hjn⟩ := hm.get hr
    have hrl := hM r (List.mem_of_getElem? hr)
    simp only [go_sem, f7, f31, f33, hd, htn, hjn, List.head?_cons]
    refine wi_appendB (S0 := S1) (bs := []) (cs := r) (t := .nil) (by simp only [go_sem]) rfl (by simp only [go_sem]; exact hvr.elems _) (by simp; omega) (Keeps.refl _ _) trivial (fun j h => by cases h) (fun _ => rfl) fun t3 S3 k3 ht3 ho3 hz3 => ?_
    rw [List.nil_append] at hz3
    simp only [go_sem]
    have ht'3 : TokOk S3 t' := ht'.keep k3 fun _ _ => id
    refine wi_appendR (R := BytesR) (v := v') (l := L.take k ++ M.take j) (y := r) (c := [_]) (t := t') (by simp only [go_sem, f7]) hv' (by simp only [go_sem]; exact elems1 _ _ _ (by simp)) rfl ⟨_, rfl, ⟨t3, rfl, hz3⟩⟩ (by rw [List.length_append, hkl, List.length_take]; omega) ht'3 fun t4 S4 v4 hs4 k4 ht4 hn4 hz4 => ?_
    have w1 : IntKind.i64.wrap ((j : Int) + 1) = ((j + 1 : Nat) : Int) := by rw [w64 (by omega) (by omega)]; omega
    simp only [go_sem, f33, w1]
    rw [List.append_assoc, ← take_snoc hr] at hs4
    exact ⟨M.length - (j + 1), by omega, j + 1, v4, t4, rfl, by omega, by simp only [go_sem, f0], by simp only [go_sem], by simp only [go_sem, f31], by simp only [go_sem, f32], by simp only [go_sem], hs4, keeps_new (k1.trans k3 fun _ _ h => h) k4 ho', ht4, fun j hj => Nat.le_trans (Nat.le_trans k1.n k3.n) (hn4 j hj)⟩
  · have hje : j = M.length := by have := of_decide_eq_false ‹_›; omega
    subst hje
    rw [List.take_length] at hv'
    have W1 := WAfter.new h k1
    have hc1 := k1.cells hcc h.lt id
    simp only [s_wal_Log_Set_0, go_sem, f0, f7]
    refine wi_call ?_
    simp only [go_sem]
    refine write_runs W1.w.d hc1 W1.w.lt (W1.w.no _ (.inl rfl)) (by omega) hv' hb (by rw [List.length_append, hkl]; omega) fun S2 D2 A2 a2 => ?_
    have W2 := WAfter.disk W1.w A2
    have hbad := hbad S2 D2 (W1.trans W2) a2
    generalize he : (D.abs.writeL s (L.take k ++ M)).1 = e at *
    by_cases h0 : e ≠ 0
    · have q0 : (e != 0) = true := by simpa using h0
      simp only [go_sem, q0]
      refine wc_ite (b := true) (by simp only [go_sem] <;> rfl) (fun _ => ?_) (fun h => by cases h)
      simp only [go_sem]
      exact hbad h0
    · have q0 : (e != 0) = false := by simpa using h0
      have hc2 := A2.cells hc1 W1.w.lt (W1.w.no g (.inl rfl))
      have h1 := hv'.one
      have h2 : v'.cells = [v'] := by obtain ⟨cs4, rfl⟩ := hv'.len; rfl
      have hsp : splice [V.ptr (some (i, 0)), V.str (mkS s), V.sl cs L.length 1 t] 2 [v'] = [.ptr (some (i, 0)), .str (mkS s), v'] := rfl
      simp only [go_sem, q0]
      refine wc_ite (b := false) (by simp only [go_sem] <;> rfl) (fun h => by cases h) (fun _ => ?_)
      simp only [go_sem, f0, f7, hc2, h1, h2, hsp]
      have hto : ∀ j, t' = .at j → ¬ ownD i D j := fun j hj ho => by have := h.d.own_lt ho; have := ho' j hj; omega
      have ht2 : TokOk S2 t' := ht'.keep A2.k hto
      have hto2 : ∀ j, t' = .at j → ¬ ownD i D2 j := fun j hj => A2.no (by rw [hj] at ht'; exact ht'.1) (hto j hj)
      have kg : Keeps (fun j => j = g) S2 (S2.set g (.cells [.ptr (some (i, 0)), .str (mkS s), v'])) := Keeps.set1 _ _ _
      have hg := h.lt
      have hng : ∀ j, t' = .at j → ¬ j = g := fun j hj e => by have := ho' j hj; omega
      refine hQ _ D2 t' ⟨⟨A2.d.keep kg fun j hj e => W2.w.no g (.inl rfl) (e ▸ hj), ⟨v', by rw [cells_setc, if_pos rfl], hv'⟩, kg.lt W2.w.lt, ht2.keep kg hng, fun j hj => ?_, h.sl⟩, ?_, fun j hj => ?_⟩ a2 (by simpa using h0)
      · rcases hj with rfl | hj
        · exact W2.w.no _ (.inl rfl)
        · exact hto2 j hj
      · exact ((W1.trans W2).k).set (.inl (.inr (.inl rfl))) _
      · rcases hj with hj | rfl | hj
        · exact (W1.trans W2).o j (.inl hj)
        · exact .inl (.inr (.inl rfl))
        · exact .inr (ho' j hj)
end Go.VM
