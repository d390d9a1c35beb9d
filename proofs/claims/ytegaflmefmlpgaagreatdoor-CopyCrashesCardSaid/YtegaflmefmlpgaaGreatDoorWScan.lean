/-
  wal.Scan.
  wal's write: a file has just these records.
  wal's write, Append, Sync, Len, At. NEWPP
-/
import Derived.Test.YtegaflmefmlpgaaGreatDoorPFrame
import Derived.Test.YtegaflmefmlpgaaGreatDoorWalCodes
set_option maxRecDepth 20000
set_option linter.unusedVariables false
set_option linter.unusedSimpArgs false
namespace Go.VM
open Go Go.RowKit Go.Proofs

def BytesR (c : List V) (l : List UInt8) : Prop := ∃ v, c = [v] ∧ IsBytes v l
/-- The records at the front of bytes, and how many bytes they have. -/
inductive Scans : List UInt8 → List (List UInt8) → Nat → Prop
  | stop {l : List UInt8} {e : Int} (h : readF l = .inl e) : Scans l [] 0
  | step {l q : List UInt8} {k n : Nat} {L : List (List UInt8)} (h : readF l = .inr (q, k)) (r : Scans (l.drop k) L n) : Scans l (q :: L) (k + n)
theorem Scans.det {l : List UInt8} {L L' : List (List UInt8)} {n n' : Nat} (h : Scans l L n) (h' : Scans l L' n') : L = L' ∧ n = n' := by
  induction h generalizing L' n' with
  | stop h => cases h' with
    | stop h' => exact ⟨rfl, rfl⟩
    | step h' r => rw [h] at h'; cases h'
  | step h r ih => cases h' with
    | stop h' => rw [h] at h'; cases h'
    | step h' r' =>
      rw [h] at h'; injection h' with h'; injection h' with h1 h2
      subst h1; subst h2
      obtain ⟨rfl, rfl⟩ := ih r'
      exact ⟨rfl, rfl⟩
/-- Append of one thing to a slice of the walk's own. -/
theorem wi_appendR {α : Type} {R : List V → α → Prop} {cl : Cl} {fr : Fr} {S : St} {K : Fr → St → Prop} {Kp : V → St → Prop} {dst : Option Nat} {sz bytes : Nat} {s x : Arg} {r : List Item} {v : V} {l : List α} {y : α} {c : List V} {t : Tok}
    (hs : s.ev fr = v) (hv : IsSlice R sz v l t) (hx : (x.ev fr).elems S sz = some (1, c)) (hc : c.length = sz) (hy : R c y) (hr : (l.length + 1) * bytes ≤ 140737488355328) (ht : TokOk S t)
    (hK : ∀ t' S' v', IsSlice R sz v' (l ++ [y]) t' → Keeps (tokOwn t) S S' → TokOk S' t' → (∀ j, t' = .at j → S.n ≤ j) → t' ≠ .nil → wItems cl r (fr.put dst v') S' K Kp) :
    wItems cl (.run ⟨dst, none, .e (.append sz bytes false s x)⟩ :: r) fr S K Kp := by
  obtain ⟨cs, rfl⟩ := hv.len
  refine wi_append (n := l.length) (cs := cs) (t := t) (m := 1) (xs := c) hs hx (by omega) (by simp only [roomOk, decide_eq_true_eq]; exact hr) ht (fun e => ?_) fun t' S' k' ht' hn' hz => ?_
  · subst e; obtain ⟨L, e, hn, _, hl, _⟩ := hv.ex
    injection e with e1 e2
    have := hn rfl
    subst this
    have : L = [] := List.eq_nil_of_length_eq_zero hl
    subst this
    exact ⟨e1, rfl⟩
  · have hn : t' ≠ .nil := fun e => absurd (hz e).1 (by decide)
    exact hK t' S' _ (hv.app hc hy hn) k' ht' hn' hn

theorem readF_err {l : List UInt8} {e : Int} (h : readF l = .inl e) : e ≠ 0 := by
  unfold readF at h
  split at h
  · injection h with h; subst h; decide
  · split at h
    · injection h with h; subst h; decide
    · split at h
      · injection h with h; subst h; decide
      · split at h
        · injection h with h; subst h; decide
        · cases h
theorem IsBytes.cells {v : V} {bs : List UInt8} (h : IsBytes v bs) : v.cells = [v] := by obtain ⟨t, rfl, _⟩ := h; rfl
theorem elems1 (S : St) (v : V) (t : Tok) (ht : t ≠ .nil) : (V.sl [v] 1 1 t).elems S 1 = some (1, [v]) := by
  simp [V.elems, ht]
theorem scan_runs {w0 : World} {S : St} {Q : AEnd → St → Prop} {v : V} {bs : List UInt8} (hv : IsBytes v bs) (hl : bs.length ≤ 10000000000000)
    (hQ : ∀ S' v' L n t', Scans bs L n → IsSlice BytesR 1 v' L t' → TokOk S' t' → (∀ j, t' = .at j → S.n ≤ j) → n ≤ bs.length → Keeps (fun _ => False) S S' → Q (.ret (.tup [v', .int .i64 (n : Int)])) S') :
    RSim Tryz.prog w0 n_wal_Scan [v] S Q := by
  refine RSim.run mixed k_wal_Scan ?_ (by simp)
  simp only [b_wal_Scan, go_sem]
  refine loop_rule RSim.le (k := bs.length) (fun m fr S1 => ∃ (p : Nat) (L : List (List UInt8)) (v' : V) (t' : Tok), m = bs.length - p ∧ p ≤ bs.length ∧ 7 * L.length ≤ p ∧ fr 0 = v ∧ fr 4 = v' ∧ fr 5 = .int .i64 p ∧ IsSlice BytesR 1 v' L t' ∧ TokOk S1 t' ∧ (∀ j, t' = .at j → S.n ≤ j) ∧ Keeps (fun _ => False) S S1 ∧ ∀ L' n', Scans (bs.drop p) L' n' → Scans bs (L ++ L') (p + n')) ?_
    ⟨0, [], _, .nil, rfl, by omega, by simp, by simp only [go_sem], by simp only [go_sem], by simp only [go_sem]; rfl, isSlice_nil BytesR 1, trivial, fun j h => (by cases h), Keeps.refl _ _, fun L' n' h => by simpa using h⟩
  rintro m fr S1 ⟨p, L, v', t', hm, hp, h7, f0, f4, f5, hs, ht', ho', k1, hsc⟩
  simp only [l_wal_Scan_0, go_sem, f0, f4, f5]
  refine wi_call ?_
  simp only [go_sem]
  refine readFrame_runs hv hp (by omega) (fun e S2 he k2 => ?_) fun q k S2 vq hq hvq hk hpk k2 => ?_
  · have he0 : (e != 0) = true := by simpa using readF_err he
    simp only [go_sem, he0]
    refine wc_ite (b := true) (by simp only [go_sem] <;> rfl) (fun _ => ?_) (fun h => by cases h)
    simp only [go_sem, f4, f5]
    have := hsc [] 0 (.stop he)
    rw [List.append_nil, Nat.add_zero] at this
    exact hQ S2 v' L p t' this hs (ht'.keep k2 fun _ _ => id) ho' hp (k1.trans k2 fun _ _ h => h)
  · simp only [go_sem]
    refine wc_ite (b := false) (by simp only [go_sem] <;> rfl) (fun h => by cases h) (fun _ => ?_)
    simp only [go_sem, f4, hvq.one, hvq.cells]
    refine wi_appendR (R := BytesR) (v := v') (l := L) (y := q) (c := [vq]) (t := t') (by simp only [go_sem, f4]) hs (by simp only [go_sem]; exact elems1 _ _ _ (by simp)) rfl ⟨vq, rfl, hvq⟩ (by omega) (ht'.keep k2 fun _ _ => id) fun t2 S3 v2 hs2 k3 ht2 hn2 hz2 => ?_
    simp only [go_sem]
    refine ⟨bs.length - (p + k), by omega, p + k, L ++ [q], v2, t2, rfl, hpk, by simp; omega, by simp only [go_sem, f0], by simp only [go_sem], by simp only [go_sem], hs2, ht2, fun j hj => Nat.le_trans (Nat.le_trans k1.n k2.n) (hn2 j hj), keeps_new (k1.trans k2 fun _ _ h => h) k3 ho', fun L' n' h' => ?_⟩
    have := hsc (q :: L') (k + n') (.step hq (by rw [List.drop_drop]; exact h'))
    rw [List.append_assoc, Nat.add_assoc]
    exact this
end Go.VM

namespace Go.VM
open Go Go.RowKit Go.Proofs

/-- A disk behind some calls. -/
structure After (S : St) (i : Nat) (D : Dk) (S' : St) (D' : Dk) : Prop where
  d : DiskAt S' i D'
  k : Keeps (ownD i D) S S'
  o : ∀ j, ownD i D' j → ownD i D j ∨ S.n ≤ j
theorem After.refl {S : St} {i : Nat} {D : Dk} (h : DiskAt S i D) : After S i D S D := ⟨h, Keeps.refl _ _, fun _ h => .inl h⟩
theorem After.trans {S S1 S2 : St} {i : Nat} {D D1 D2 : Dk} (h : After S i D S1 D1) (h' : After S1 i D1 S2 D2) : After S i D S2 D2 :=
  ⟨h'.d, h.k.trans h'.k fun j hj ho => (h.o j ho).elim id fun h => by omega, fun j hj => (h'.o j hj).elim (h.o j) fun h1 => .inr (Nat.le_trans h.k.n h1)⟩
theorem After.new {S S1 : St} {i : Nat} {D : Dk} (h : DiskAt S i D) (k : Keeps (fun _ => False) S S1) : After S i D S1 D := ⟨h.stay k, k.mono fun _ _ h => h.elim, fun _ h => .inl h⟩
theorem After.cells {S S' : St} {i : Nat} {D D' : Dk} (h : After S i D S' D') {g : Nat} {cs : List V} (hc : S.cells g = some cs) (hg : g < S.n) (hn : ¬ ownD i D g) : S'.cells g = some cs := h.k.cells hc hg hn
theorem After.no {S S' : St} {i : Nat} {D D' : Dk} (h : After S i D S' D') {g : Nat} (hg : g < S.n) (hn : ¬ ownD i D g) : ¬ ownD i D' g := fun h' => (h.o g h').elim hn fun h => by omega

def newN (s : List UInt8) : List UInt8 := s ++ [46, 110, 101, 119]
def fileB (L : List (List UInt8)) : List UInt8 := L.flatMap frameB
def longL (L : List (List UInt8)) : Bool := L.any fun r => decide (65535 < r.length)
def DS.write3 (c : Int × DS) (n : List UInt8) : Int × DS := if c.1 ≠ 0 ∧ c.1 ≠ 10 then (c.1, (c.2.remove n).2) else c
def DS.write2 (b : Int × DS) (s : List UInt8) : Int × DS := DS.write3 (if b.1 = 0 then b.2.rename (newN s) s else b) (newN s)
def DS.write1 (a : Int × DS) (s : List UInt8) : Int × DS := DS.write2 (if a.1 = 0 then a.2.sync (newN s) else a) s
def DS.writeL (D : DS) (s : List UInt8) (L : List (List UInt8)) : Int × DS := if longL L = true then (2, D) else DS.write1 (D.grow (newN s) (fileB L) true) s

theorem write_end {w0 : World} {fr : Fr} {S : St} {Q : AEnd → St → Prop} {i g : Nat} {D : Dk} {s : List UInt8} {x : V} {e : Int} (d : DiskAt S i D) (hc : S.cells g = some [.ptr (some (i, 0)), .str (mkS s), x]) (hs : s.length ≤ 1000)
    (g0 : fr 0 = .ptr (some (g, 0))) (g10 : fr 10 = .int .i64 e)
    (hQ : ∀ S' D', After S i D S' D' → D'.abs = (DS.write3 (e, D.abs) (newN s)).2 → Q (.ret (.int .i64 (DS.write3 (e, D.abs) (newN s)).1)) S') :
    wCode (RSim Tryz.prog w0) r_wal_Log_write_1 fr S (resQ [.tmp 4] Q) := by
  have hadd : binStr .add (mkS s) (mkS [46, 110, 101, 119]) = some (.str (mkS (newN s))) := str_add' (by simp; omega)
  have hnl : (newN s).length ≤ 1000000000000000 := by simp [newN]; omega
  simp only [r_wal_Log_write_1, go_sem, g0, g10]
  have stay : ¬ (e ≠ 0 ∧ e ≠ 10) → Q (.ret (.int .i64 e)) S := fun h => by
    have := hQ S D (After.refl d)
    simp only [DS.write3] at this
    rw [if_neg h] at this
    exact this rfl
  by_cases h1 : e ≠ 0
  · have q1 : (e != 0) = true := by simpa using h1
    by_cases h2 : e ≠ 10
    · have hq := hQ
      have q2 : (e != 10) = true := by simpa using h2
      simp only [DS.write3] at hq
      rw [if_pos ⟨h1, h2⟩] at hq
      simp only [go_sem, q1, q2, g10]
      refine wc_ite (b := true) (by simp only [go_sem] <;> rfl) (fun _ => ?_) (fun h => by cases h)
      simp only [go_sem, g0, hc, hadd]
      refine wi_call ?_
      simp only [go_sem]
      refine remove_runs d hnl fun S1 D1 d1 a1 k1 o1 => ?_
      simp only [go_sem, g10]
      exact hq S1 D1 ⟨d1, k1, fun j hj => .inl (o1 j hj)⟩ a1
    · have := stay fun h => h2 h.2
      have q2 : (e != 10) = false := by simpa using h2
      simp only [go_sem, q1, q2, g10]
      refine wc_ite (b := false) (by simp only [go_sem] <;> rfl) (fun h => by cases h) (fun _ => ?_)
      simp only [go_sem, g10]
      exact this
  · have := stay fun h => h1 h.1
    have q1 : (e != 0) = false := by simpa using h1
    simp only [go_sem, q1]
    refine wc_ite (b := false) (by simp only [go_sem] <;> rfl) (fun h => by cases h) (fun _ => ?_)
    simp only [go_sem, g10]
    exact this
theorem write_mid {w0 : World} {fr : Fr} {S : St} {Q : AEnd → St → Prop} {i g : Nat} {D : Dk} {s : List UInt8} {x : V} {e : Int} (d : DiskAt S i D) (hc : S.cells g = some [.ptr (some (i, 0)), .str (mkS s), x]) (hg : g < S.n) (hn : ¬ ownD i D g) (hs : s.length ≤ 1000)
    (g0 : fr 0 = .ptr (some (g, 0))) (g10 : fr 10 = .int .i64 e)
    (hQ : ∀ S' D', After S i D S' D' → D'.abs = (DS.write2 (e, D.abs) s).2 → Q (.ret (.int .i64 (DS.write2 (e, D.abs) s).1)) S') :
    wCode (RSim Tryz.prog w0) r_wal_Log_write_2 fr S (resQ [.tmp 4] Q) := by
  have hadd : binStr .add (mkS s) (mkS [46, 110, 101, 119]) = some (.str (mkS (newN s))) := str_add' (by simp; omega)
  have hnl : (newN s).length ≤ 1000000000000000 := by simp [newN]; omega
  simp only [r_wal_Log_write_2, go_sem, g0, g10]
  unfold DS.write2 at hQ
  by_cases h1 : e = 0
  · have q1 : (e == 0) = true := by simpa using h1
    rw [if_pos h1] at hQ
    simp only [go_sem, q1]
    refine wc_ite (b := true) (by simp only [go_sem] <;> rfl) (fun _ => ?_) (fun h => by cases h)
    simp only [go_sem, g0, hc, hadd]
    refine wi_call ?_
    simp only [go_sem]
    refine rename_runs d hnl (by omega) fun S1 D1 d1 a1 k1 o1 => ?_
    have A1 : After S i D S1 D1 := ⟨d1, k1, fun j hj => .inl (o1 j hj)⟩
    simp only [go_sem]
    refine write_end (e := (D.abs.rename (newN s) s).1) d1 (A1.cells hc hg hn) hs (by simp only [go_sem, g0]) (by simp only [go_sem]) fun S2 D2 A2 a2 => ?_
    rw [a1] at a2 ⊢
    exact hQ S2 D2 (A1.trans A2) a2
  · have q1 : (e == 0) = false := by simpa using h1
    rw [if_neg h1] at hQ
    simp only [go_sem, q1]
    refine wc_ite (b := false) (by simp only [go_sem] <;> rfl) (fun h => by cases h) (fun _ => ?_)
    simp only [wc_skip, seqQ_normal]
    exact write_end d hc hs (by simp only [go_sem, g0]) (by simp only [go_sem, g10]) hQ
theorem write_put {w0 : World} {fr : Fr} {S : St} {Q : AEnd → St → Prop} {i g : Nat} {D : Dk} {s p : List UInt8} {x pv : V} (d : DiskAt S i D) (hc : S.cells g = some [.ptr (some (i, 0)), .str (mkS s), x]) (hg : g < S.n) (hn : ¬ ownD i D g) (hs : s.length ≤ 1000)
    (g0 : fr 0 = .ptr (some (g, 0))) (g5 : fr 5 = pv) (hp : IsBytes pv p) (hpl : p.length ≤ 1000000000000000)
    (hQ : ∀ S' D', After S i D S' D' → D'.abs = (DS.write1 (D.abs.grow (newN s) p true) s).2 → Q (.ret (.int .i64 (DS.write1 (D.abs.grow (newN s) p true) s).1)) S') :
    wCode (RSim Tryz.prog w0) s_wal_Log_write_0 fr S (resQ [.tmp 4] Q) := by
  have hadd : binStr .add (mkS s) (mkS [46, 110, 101, 119]) = some (.str (mkS (newN s))) := str_add' (by simp; omega)
  have hnl : (newN s).length ≤ 1000000000000000 := by simp [newN]; omega
  simp only [s_wal_Log_write_0, go_sem, g0, g5, hc, hadd]
  refine wi_call ?_
  simp only [go_sem]
  refine put_runs d hnl (hp.into _ _) hpl fun S1 D1 d1 a1 k1 o1 => ?_
  have A1 : After S i D S1 D1 := ⟨d1, k1, o1⟩
  have hc1 := A1.cells hc hg hn
  have hg1 := k1.lt hg
  have hn1 := A1.no hg hn
  unfold DS.write1 at hQ
  generalize he : D.abs.grow (newN s) p true = a at *
  obtain ⟨e, E⟩ := a
  simp only [go_sem, g0]
  simp only at a1 hQ
  by_cases h1 : e = 0
  · have q1 : (e == 0) = true := by simpa using h1
    rw [if_pos h1] at hQ
    simp only [go_sem, q1]
    refine wc_ite (b := true) (by simp only [go_sem] <;> rfl) (fun _ => ?_) (fun h => by cases h)
    simp only [go_sem, g0, hc1, hadd]
    refine wi_call ?_
    simp only [go_sem]
    refine sync_runs d1 hnl fun S2 D2 d2 a2 k2 o2 => ?_
    have A2 : After S1 i D1 S2 D2 := ⟨d2, k2, o2⟩
    simp only [go_sem]
    refine write_mid (e := (D1.abs.sync (newN s)).1) d2 (A2.cells hc1 hg1 hn1) (k2.lt hg1) (A2.no hg1 hn1) hs (by simp only [go_sem, g0]) (by simp only [go_sem]) fun S3 D3 A3 a3 => ?_
    rw [a2] at a3 ⊢
    rw [a1] at a3 ⊢
    exact hQ S3 D3 (A1.trans (A2.trans A3)) a3
  · have q1 : (e == 0) = false := by simpa using h1
    rw [if_neg h1] at hQ
    simp only [go_sem, q1]
    refine wc_ite (b := false) (by simp only [go_sem] <;> rfl) (fun h => by cases h) (fun _ => ?_)
    simp only [wc_skip, seqQ_normal]
    refine write_mid (e := e) d1 hc1 hg1 hn1 hs (by simp only [go_sem, g0]) (by simp only [go_sem]) fun S3 D3 A3 a3 => ?_
    rw [a1] at a3 ⊢
    exact hQ S3 D3 (A1.trans A3) a3
end Go.VM

namespace Go.VM
open Go Go.RowKit Go.Proofs

theorem IsSlice.get {cs : List V} {n : Nat} {L : List (List UInt8)} {t : Tok} (h : IsSlice BytesR 1 (.sl cs n 1 t) L t) {j : Nat} {r : List UInt8} (hr : L[j]? = some r) :
    ∃ v rest, cs.drop (j * 1) = v :: rest ∧ IsBytes v r ∧ (t = .nil) = False ∧ (j < n) = True := by
  obtain ⟨cs', c, e, ht, hj, hl, hc, _, v, rfl, hv⟩ := h.at2 hr
  injection e with e1 e2
  subst e1; subst e2
  match hd : cs.drop (j * 1), hl with
  | x :: rest, _ =>
    rw [hd] at hc
    simp at hc
    subst hc
    exact ⟨x, rest, rfl, hv, eq_false ht, eq_true hj⟩
theorem fileB_snoc (L : List (List UInt8)) (r : List UInt8) : fileB (L ++ [r]) = fileB L ++ frameB r := by simp [fileB]
theorem fileB_append (L M : List (List UInt8)) : fileB (L ++ M) = fileB L ++ fileB M := by simp [fileB]
theorem fileB_take_le (L : List (List UInt8)) (j : Nat) : (fileB (L.take j)).length ≤ (fileB L).length := by
  have := fileB_append (L.take j) (L.drop j)
  rw [List.take_append_drop] at this
  rw [this, List.length_append]; omega
theorem take_snoc {α : Type} {L : List α} {j : Nat} {r : α} (h : L[j]? = some r) : L.take (j + 1) = L.take j ++ [r] := by
  rw [List.take_add_one, h]; rfl
theorem longL_mem {L : List (List UInt8)} {j : Nat} {r : List UInt8} (h : L[j]? = some r) (hl : 65535 < r.length) : longL L = true := by
  unfold longL; rw [List.any_eq_true]
  exact ⟨r, List.mem_of_getElem? h, by simpa using hl⟩

theorem write_runs {w0 : World} {S : St} {Q : AEnd → St → Prop} {i g : Nat} {D : Dk} {s : List UInt8} {L : List (List UInt8)} {x lv : V} {t : Tok} (d : DiskAt S i D) (hc : S.cells g = some [.ptr (some (i, 0)), .str (mkS s), x]) (hg : g < S.n) (hn : ¬ ownD i D g) (hs : s.length ≤ 1000)
    (hv : IsSlice BytesR 1 lv L t) (hb : (fileB L).length ≤ 10000000000000) (hll : L.length ≤ 10000000000000)
    (hQ : ∀ S' D', After S i D S' D' → D'.abs = (D.abs.writeL s L).2 → Q (.ret (.int .i64 (D.abs.writeL s L).1)) S') :
    RSim Tryz.prog w0 n_wal_Log_write [.ptr (some (g, 0)), lv] S Q := by
  obtain ⟨cs, rfl⟩ := hv.len
  refine RSim.run mixed k_wal_Log_write ?_ (by simp)
  simp only [b_wal_Log_write, go_sem]
  refine loop_rule RSim.le (k := L.length) (fun m fr S1 => ∃ (j : Nat) (t' : Tok), m = L.length - j ∧ j ≤ L.length ∧ fr 0 = .ptr (some (g, 0)) ∧ fr 5 = .sl ((fileB (L.take j)).map u8V) (fileB (L.take j)).length 1 t' ∧ fr 11 = .sl cs L.length 1 t ∧ fr 12 = .int .i64 L.length ∧ fr 13 = .int .i64 j ∧ longL (L.take j) = false ∧
      Keeps (fun _ => False) S S1 ∧ TokOk S1 t' ∧ (∀ j, t' = .at j → S.n ≤ j) ∧ (t' = .nil → fileB (L.take j) = [])) ?_
    ⟨0, .nil, rfl, by omega, by simp only [go_sem], by simp only [go_sem]; rfl, by simp only [go_sem], by simp only [go_sem], by simp only [go_sem]; rfl, rfl, Keeps.refl _ _, trivial, fun j h => (by cases h), fun _ => rfl⟩
  rintro m fr S1 ⟨j, t', hm, hj, f0, f5, f11, f12, f13, hlong, k1, ht', ho', hz'⟩
  simp only [l_wal_Log_write_0, go_sem, f0, f5, f11, f12, f13]
  have hfl := fileB_take_le L j
  refine wc_ite (b := decide ((j : Int) < (L.length : Int))) (by simp only [go_sem]) (fun hc => ?_) (fun hc => ?_)
  · have hlt : j < L.length := by have := of_decide_eq_true hc; omega
    obtain ⟨r, hr⟩ : ∃ r, L[j]? = some r := ⟨L[j], List.getElem?_eq_getElem hlt⟩
    obtain ⟨v, rest, hd, hvr, htn, hjn⟩ := hv.get hr
    simp only [r_wal_Log_write_0, go_sem, f0, f5, f11, f12, f13, hd, htn, hjn, List.head?_cons]
    refine wi_call ?_
    simp only [go_sem]
    refine frame_runs hvr (fun hr65 S2 v' hv' k2 => ?_) fun hr65 => ?_
    · simp only [go_sem]
      refine wc_ite (b := false) (by simp only [go_sem] <;> rfl) (fun h => by cases h) (fun _ => ?_)
      simp only [go_sem, f5]
      have htk := take_snoc hr
      have hft : fileB (L.take (j + 1)) = fileB (L.take j) ++ frameB r := by rw [htk, fileB_snoc]
      have hfl1 := fileB_take_le L (j + 1)
      rw [hft, List.length_append] at hfl1
      refine wi_appendB (S0 := S) (bs := fileB (L.take j)) (cs := frameB r) (t := t') (by simp only [go_sem, f5]) rfl (by simp only [go_sem]; exact hv'.elems _) (by omega) (k1.trans k2 fun _ _ h => h) (ht'.keep k2 fun _ _ => id) ho' hz' fun t2 S3 k3 ht2 ho2 hz2 => ?_
      have w1 : IntKind.i64.wrap ((j : Int) + 1) = ((j + 1 : Nat) : Int) := by rw [w64 (by omega) (by omega)]; omega
      simp only [go_sem, f13, w1]
      rw [← hft] at hz2
      refine ⟨L.length - (j + 1), by omega, j + 1, t2, rfl, by omega, by simp only [go_sem, f0], by simp only [go_sem, hft], by simp only [go_sem, f11], by simp only [go_sem, f12], by simp only [go_sem], ?_, k3, ht2, ho2, hz2⟩
      rw [htk]
      unfold longL at hlong ⊢
      rw [List.any_append, hlong]
      simp; omega
    · have hL := longL_mem hr hr65
      simp only [go_sem]
      refine wc_ite (b := true) (by simp only [go_sem] <;> rfl) (fun _ => ?_) (fun h => by cases h)
      simp only [go_sem]
      have e : D.abs.writeL s L = (2, D.abs) := if_pos hL
      rw [e] at hQ
      exact hQ S1 D (After.new d k1) rfl
  · have hje : j = L.length := by have := of_decide_eq_false hc; omega
    subst hje
    rw [List.take_length] at f5 hlong hz'
    simp only [go_sem]
    have e : D.abs.writeL s L = DS.write1 (D.abs.grow (newN s) (fileB L) true) s := if_neg (by rw [hlong]; decide)
    rw [e] at hQ
    have A1 := After.new d k1
    refine write_put (p := fileB L) A1.d (A1.cells ‹_› hg hn) (k1.lt hg) (A1.no hg hn) hs (by simp only [go_sem, f0]) (by simp only [go_sem, f5]) ⟨t', rfl, hz'⟩ (by omega) fun S2 D2 A2 a2 => ?_
    exact hQ S2 D2 (A1.trans A2) a2
end Go.VM
