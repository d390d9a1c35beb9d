/-
  Rename. NEWPP
-/
import Derived.Test.YtegaflmefmlpgaaGreatDoorDChange
set_option linter.unusedVariables false
set_option linter.unusedSimpArgs false
namespace Go.VM
open Go Go.RowKit Go.Proofs

def renF (s t : List UInt8) : DS → File → DS := fun D x => { D with files := putF { x with name := t } (delF s D.files), used := match findF t (delF s D.files) with | some y => D.used - y.p.length | none => D.used }
def DS.rename (D : DS) (s t : List UInt8) : Int × DS :=
  if nameOk s = false ∨ nameOk t = false then (1, D) else if s = t then (1, D) else
  if D.off = false ∧ (∃ x, findF s D.files = some x ∧ x.sure < x.p.length) then (12, D) else D.change s (renF s t)
theorem rename_nil {w0 : World} {S : St} {Q : AEnd → St → Prop} {s t : List UInt8} (hQ : ∀ S', Keeps (fun _ => False) S S' → Q (.ret (.int .i64 8)) S') : RSim Tryz.prog w0 n_disk_Disk_Rename [.ptr none, .str (mkS s), .str (mkS t)] S Q := by
  have k0 : Keeps (fun _ => False) S (((S.add (.cells [.ptr none])).add (.cells [.str (mkS s)])).add (.cells [.str (mkS t)])) := (((Keeps.refl _ S).add _).add _).add _
  have e1 : ¬ S.n = S.n + 1 := by omega
  have e2 : ¬ S.n = S.n + 1 + 1 := by omega
  have e3 : ¬ S.n + 1 = S.n + 1 + 1 := by omega
  refine RSim.run mixed k_disk_Disk_Rename ?_ (by simp)
  simp only [b_disk_Disk_Rename, go_sem, e1, e2, e3]
  refine wi_call ?_
  simp only [go_sem]
  refine look_nil ?_
  simp only [go_sem]
  refine wc_ite (b := true) (by simp only [go_sem] <;> rfl) (fun _ => ?_) (fun h => by cases h)
  simp only [go_sem]
  exact hQ _ k0
theorem lookE_two (s t : List UInt8) : lookE [s, t] = if nameOk s = false ∨ nameOk t = false then 1 else 0 := by
  simp only [lookE, List.all_cons, List.all_nil, Bool.and_true]
  cases nameOk s <;> cases nameOk t <;> rfl

theorem modify_mid {α : Type} (a b : List α) (e : α) (f : α → α) : (a ++ e :: b).modify a.length f = a ++ f e :: b := by
  induction a with
  | nil => rfl
  | cons x a ih => simp [ih]
theorem sumLen_app (a b : List Ent) : sumLen (a ++ b) = sumLen a + sumLen b := by simp [sumLen]
theorem toks_symm {l l' : List Ent} (h : l.Perm l') (hl : l.Pairwise fun a b => ∀ k, a.t = .at k → b.t ≠ .at k) : l'.Pairwise fun a b => ∀ k, a.t = .at k → b.t ≠ .at k :=
  (h.pairwise_iff fun {x y} hxy k hy hx => hxy k hx hy).1 hl

theorem renFn_runs {w0 : World} {S : St} {Q : AEnd → St → Prop} {i B : Nat} {D : Dk} {s t : List UInt8} {a b : List Ent} {e : Ent} (h : DiskAt S i D) (he : D.ents = a ++ e :: b) (hsn : e.name = s) (ha : ∀ x ∈ a, x.name ≠ s) (hst : s ≠ t) (ht : nameOk t = true)
    (b0 : S.cells B = some [.ptr (some (i, 0))]) (b1 : S.cells (B + 1) = some [.str (mkS s)]) (b2 : S.cells (B + 2) = some [.str (mkS t)]) (hB : B + 2 < S.n) (hBi : ∀ j, j = B ∨ j = B + 1 ∨ j = B + 2 → j ≠ i)
    (hQ : ∀ S' D', DiskAt S' i D' → D'.abs = renF s t D.abs e.file → Keeps (fun j => j = i ∨ j = D.m) S S' → (∀ j, ownD i D' j → ownD i D j) → Q (.ret (.tup [])) S') :
    RSim Tryz.prog w0 n_disk_Disk_Rename_1 [.ptr (some (e.f, 0)), .ptr (some (B, 0)), .ptr (some (B + 1, 0)), .ptr (some (B + 2, 0))] S Q := by
  have hem : e ∈ D.ents := by rw [he]; simp
  have hE1 := h.ents e hem
  have hmi : ¬ D.m = i := Ne.symm h.ne_m
  have him : ¬ i = D.m := h.ne_m
  have hBm : ∀ j cs, S.cells j = some cs → ¬ j = D.m := fun j cs hc e => by
    have h1 := hp_cells hc
    rw [e, h.map] at h1
    cases h1
  have m0 := hBm _ _ b0
  have m1 := hBm _ _ b1
  have m2 := hBm _ _ b2
  have i0 := hBi B (.inl rfl)
  have i1 := hBi (B + 1) (.inr (.inl rfl))
  have i2 := hBi (B + 2) (.inr (.inr rfl))
  have hf := findE_some (b := b) hsn a 0 ha
  rw [← he] at hf
  have hers : (D.ents.map Ent.cell).eraseIdx a.length = (a ++ b).map Ent.cell := by
    have := eraseIdx_mid (a.map Ent.cell) (b.map Ent.cell) e.cell
    rw [List.length_map, Nat.zero_add] at this
    rw [he, List.map_append, List.map_cons, this, List.map_append]
  have hus := h.wf.used; have hfi := h.wf.fits; have hro := h.wf.room
  refine RSim.run mixed k_disk_Disk_Rename_1 ?_ (by simp)
  simp only [b_disk_Disk_Rename_1, go_sem, b0, b1, h.head, Dk.cells]
  refine wi_e ?_
  simp only [wE]
  simp only [go_sem, h.map, hf, hers]
  have cellsM : ∀ (S : St) (m : Nat) (es : List (V × V × Nat)) (c j : Nat), ¬ j = m → (S.set m (.map es c)).cells j = S.cells j := fun S m es c j hj => by
    simp only [St.cells, St.set_hp, hj, if_false]
  have e0 := cellsM S D.m ((a ++ b).map Ent.cell) D.c B m0
  have e2 := cellsM S D.m ((a ++ b).map Ent.cell) D.c (B + 2) m2
  have ei := cellsM S D.m ((a ++ b).map Ent.cell) D.c i him
  rcases find_cases t (a ++ b) with ⟨a', y, b', hab, hyn, ha'⟩ | hno
  · have hf2 := findE_some (b := b') hyn a' 0 ha'
    rw [← hab] at hf2
    have hy : y ∈ D.ents := by
      have : y ∈ a ++ b := by rw [hab]; simp
      rw [he]
      rcases List.mem_append.1 this with h' | h' <;> simp [h']
    have ey := cellsM S D.m ((a ++ b).map Ent.cell) D.c y.f (Ne.symm (h.ne_mf hy))
    have hEy := h.ents y hy
    simp only [go_sem, e0, e2, ei, b0, b2, h.head, Dk.cells, hf2]
    refine wc_ite (b := true) (by simp only [go_sem] <;> rfl) (fun _ => ?_) (fun h => by cases h)
    have hle := sumLen_mem hy
    have hw : IntKind.i64.wrap (D.used - (y.p.length : Int)) = D.used - y.p.length :=
      w64 (by omega) (by omega)
    simp only [go_sem, e0, e2, ei, ey, b0, b2, h.head, Dk.cells, hEy.cells, hw, i0, i1, i2]
    refine wi_e ?_
    simp only [wE]
    simp only [go_sem, hmi, hf2]
    have hmod : ((a ++ b).map Ent.cell).modify a'.length (fun x => (V.str (mkS t), V.ptr (some (e.f, 0)), x.2.2)) = (a' ++ { e with name := t, born := y.born } :: b').map Ent.cell := by
      have := modify_mid (a'.map Ent.cell) (b'.map Ent.cell) y.cell (fun x => (V.str (mkS t), V.ptr (some (e.f, 0)), x.2.2))
      rw [List.length_map] at this
      rw [hab, List.map_append, List.map_cons, this, List.map_append, List.map_cons]
      rfl
    rw [hmod]
    generalize hS2 : ((S.set D.m (.map ((a ++ b).map Ent.cell) D.c)).set i (.cells [.map (some D.m), .int .i64 D.room, .int .i64 (D.used - y.p.length), .int .i64 D.ops, .int .i64 D.arm, .bool D.off])).set D.m (.map ((a' ++ { e with name := t, born := y.born } :: b').map Ent.cell) D.c) = S2
    have k2 : Keeps (fun j => j = i ∨ j = D.m) S S2 := hS2 ▸ (((Keeps.refl (fun j => j = i ∨ j = D.m) S).set (i := D.m) (.inl (.inr rfl)) _).set (i := i) (.inl (.inl rfl)) _).set (i := D.m) (.inl (.inr rfl)) _
    have c2 : S2.cells i = some [.map (some D.m), .int .i64 D.room, .int .i64 (D.used - y.p.length), .int .i64 D.ops, .int .i64 D.arm, .bool D.off] := by
      rw [← hS2, cellsM _ _ _ _ _ him, cells_setc, if_pos rfl]
    have q2 : S2.hp D.m = some (.map ((a' ++ { e with name := t, born := y.born } :: b').map Ent.cell) D.c) := by rw [← hS2]; simp only [St.set_hp, if_true]
    clear hS2
    have P : D.ents.Perm (e :: y :: (a' ++ b')) := by
      rw [he]
      refine List.perm_middle.trans (List.Perm.cons e ?_)
      rw [hab]; exact List.perm_middle
    have P' : (a' ++ { e with name := t, born := y.born } :: b').Perm ({ e with name := t, born := y.born } :: (a' ++ b')) := List.perm_middle
    have hN := (P.map (·.name)).nodup_iff.1 h.names
    have hO := (P.map (·.f)).nodup_iff.1 h.objs
    have hBn := (P.map (·.born)).nodup_iff.1 h.born
    have hT := toks_symm P h.toks
    simp only [List.map_cons, List.nodup_cons] at hN hO hBn
    rw [List.pairwise_cons, List.pairwise_cons] at hT
    have hrest : ∀ x ∈ a' ++ b', x ∈ D.ents := fun x hx => P.symm.subset (by simp only [List.mem_cons]; exact .inr (.inr hx))
    obtain ⟨dA, oA⟩ := h.reorg (D' := { D with ents := a' ++ { e with name := t, born := y.born } :: b', used := D.used - y.p.length }) k2 c2 q2 rfl (fun x hx => by
        rcases List.mem_cons.1 (P'.subset hx) with rfl | hx
        · exact ⟨e, hem, rfl, rfl, rfl, rfl⟩
        · exact ⟨x, hrest x hx, rfl, rfl, rfl, rfl⟩)
      ((P'.map (·.name)).nodup_iff.2 (by simp only [List.map_cons, List.nodup_cons]; exact ⟨by rw [← hyn]; exact hN.2.1, hN.2.2⟩))
      ((P'.map (·.f)).nodup_iff.2 (by simp only [List.map_cons, List.nodup_cons]; exact ⟨fun h' => hO.1 (List.mem_cons_of_mem _ h'), hO.2.2⟩))
      ((P'.map (·.born)).nodup_iff.2 (by simp only [List.map_cons, List.nodup_cons]; exact ⟨hBn.2.1, hBn.2.2⟩))
      (fun x hx => by
        rcases List.mem_cons.1 (P'.subset hx) with rfl | hx
        · exact h.clock y hy
        · exact h.clock x (hrest x hx))
      (toks_symm P'.symm (by rw [List.pairwise_cons]; exact ⟨fun x hx => hT.1 x (List.mem_cons_of_mem _ hx), hT.2.2⟩))
      (by
        refine ⟨?_, ?_, hro, fun x hx => ?_, fun x hx => ?_⟩
        · show D.used - (y.p.length : Int) = ((sumLen (a' ++ { e with name := t, born := y.born } :: b') : Nat) : Int)
          have s1 := congrArg sumLen hab
          rw [sumLen_app, sumLen_mid] at s1
          rw [he, sumLen_mid] at hus
          rw [sumLen_mid]
          simp only
          omega
        · show D.used - (y.p.length : Int) ≤ D.room
          omega
        · rcases List.mem_cons.1 (P'.subset hx) with rfl | hx
          · exact h.wf.sure e hem
          · exact h.wf.sure x (hrest x hx)
        · rcases List.mem_cons.1 (P'.subset hx) with rfl | hx
          · exact ht
          · exact h.wf.names x (hrest x hx))
    refine hQ _ _ dA ?_ k2 oA
    have f1 : delF s D.abs.files = (a ++ b).map Ent.file := by simp only [Dk.abs, he]; exact delF_some hsn ha
    have f2 : findF t ((a ++ b).map Ent.file) = some y.file := by rw [hab]; exact findF_some hyn ha'
    have f3 : putF { e.file with name := t } ((a ++ b).map Ent.file) = (a' ++ { e with name := t, born := y.born } :: b').map Ent.file := by
      rw [hab]; exact putF_some (e' := { e with name := t, born := y.born }) hyn rfl ha'
    simp only [renF, f1, f2, f3]
    rfl
  · have hf2 := findE_none (a ++ b) 0 hno
    simp only [go_sem, e0, e2, ei, b0, b2, h.head, Dk.cells, hf2]
    refine wc_ite (b := false) (by simp only [go_sem] <;> rfl) (fun h => by cases h) (fun _ => ?_)
    simp only [go_sem, e0, e2, ei, b0, b2, h.head, Dk.cells]
    refine wi_e ?_
    simp only [wE]
    simp only [go_sem, hmi, hf2]
    have happ : (a ++ b).map Ent.cell ++ [(V.str (mkS t), V.ptr (some (e.f, 0)), D.c)] = ((a ++ b) ++ [{ e with name := t, born := D.c }]).map Ent.cell := by
      rw [List.map_append (l₁ := a ++ b)]; rfl
    rw [happ]
    generalize hS2 : S.set D.m (.map (((a ++ b) ++ [{ e with name := t, born := D.c }]).map Ent.cell) (D.c + 1)) = S2
    have k2 : Keeps (fun j => j = i ∨ j = D.m) S S2 := hS2 ▸ (Keeps.refl (fun j => j = i ∨ j = D.m) S).set (i := D.m) (.inl (.inr rfl)) _
    have c2 : S2.cells i = some D.cells := by rw [← hS2, cellsM _ _ _ _ _ him]; exact h.head
    have q2 : S2.hp D.m = some (.map (((a ++ b) ++ [{ e with name := t, born := D.c }]).map Ent.cell) (D.c + 1)) := by rw [← hS2]; simp only [St.set_hp, if_true]
    clear hS2
    have P : D.ents.Perm (e :: (a ++ b)) := by rw [he]; exact List.perm_middle
    have P' : ((a ++ b) ++ [{ e with name := t, born := D.c }]).Perm ({ e with name := t, born := D.c } :: (a ++ b)) := List.perm_append_comm
    have hN := (P.map (·.name)).nodup_iff.1 h.names
    have hO := (P.map (·.f)).nodup_iff.1 h.objs
    have hBn := (P.map (·.born)).nodup_iff.1 h.born
    have hT := toks_symm P h.toks
    simp only [List.map_cons, List.nodup_cons] at hN hO hBn
    rw [List.pairwise_cons] at hT
    have hrest : ∀ x ∈ a ++ b, x ∈ D.ents := fun x hx => P.symm.subset (List.mem_cons_of_mem _ hx)
    obtain ⟨dA, oA⟩ := h.reorg (D' := { D with ents := (a ++ b) ++ [{ e with name := t, born := D.c }], c := D.c + 1 }) k2 c2 q2 rfl (fun x hx => by
        rcases List.mem_cons.1 (P'.subset hx) with rfl | hx
        · exact ⟨e, hem, rfl, rfl, rfl, rfl⟩
        · exact ⟨x, hrest x hx, rfl, rfl, rfl, rfl⟩)
      ((P'.map (·.name)).nodup_iff.2 (by
        simp only [List.map_cons, List.nodup_cons]
        refine ⟨fun h' => ?_, hN.2⟩
        obtain ⟨x, hx, hx'⟩ := List.mem_map.1 h'
        exact hno x hx hx'))
      ((P'.map (·.f)).nodup_iff.2 (by simp only [List.map_cons, List.nodup_cons]; exact hO))
      ((P'.map (·.born)).nodup_iff.2 (by
        simp only [List.map_cons, List.nodup_cons]
        refine ⟨fun h' => ?_, hBn.2⟩
        obtain ⟨x, hx, hx'⟩ := List.mem_map.1 h'
        have := h.clock x (hrest x hx)
        omega))
      (fun x hx => by
        rcases List.mem_cons.1 (P'.subset hx) with rfl | hx
        · exact Nat.lt_succ_self _
        · exact Nat.lt_succ_of_lt (h.clock x (hrest x hx)))
      (toks_symm P'.symm (by rw [List.pairwise_cons]; exact ⟨fun x hx => hT.1 x hx, hT.2⟩))
      (by
        refine ⟨?_, hfi, hro, fun x hx => ?_, fun x hx => ?_⟩
        · show D.used = ((sumLen ((a ++ b) ++ [{ e with name := t, born := D.c }]) : Nat) : Int)
          rw [he, sumLen_mid] at hus
          rw [sumLen_app, sumLen_app]
          simp [sumLen] at hus ⊢
          omega
        · rcases List.mem_cons.1 (P'.subset hx) with rfl | hx
          · exact h.wf.sure e hem
          · exact h.wf.sure x (hrest x hx)
        · rcases List.mem_cons.1 (P'.subset hx) with rfl | hx
          · exact ht
          · exact h.wf.names x (hrest x hx))
    refine hQ _ _ dA ?_ k2 oA
    have f1 : delF s D.abs.files = (a ++ b).map Ent.file := by simp only [Dk.abs, he]; exact delF_some hsn ha
    have f2 : findF t ((a ++ b).map Ent.file) = none := findF_none hno
    have f3 : putF { e.file with name := t } ((a ++ b).map Ent.file) = ((a ++ b) ++ [{ e with name := t, born := D.c }]).map Ent.file :=
      putF_none (e' := { e with name := t, born := D.c }) rfl hno
    simp only [renF, f1, f2, f3]
    rfl

theorem rename_runs {w0 : World} {S : St} {Q : AEnd → St → Prop} {i : Nat} {D : Dk} {s t : List UInt8} (h : DiskAt S i D) (hs : s.length ≤ 1000000000000000) (htl : t.length ≤ 1000000000000000)
    (hQ : ∀ S' D', DiskAt S' i D' → D'.abs = (D.abs.rename s t).2 → Keeps (ownD i D) S S' → (∀ j, ownD i D' j → ownD i D j) → Q (.ret (.int .i64 (D.abs.rename s t).1)) S') :
    RSim Tryz.prog w0 n_disk_Disk_Rename [.ptr (some (i, 0)), .str (mkS s), .str (mkS t)] S Q := by
  have e1 : ¬ S.n = S.n + 1 := by omega
  have e2 : ¬ S.n = S.n + 1 + 1 := by omega
  have e3 : ¬ S.n + 1 = S.n + 1 + 1 := by omega
  have k0 : Keeps (fun _ => False) S (((S.add (.cells [.ptr (some (i, 0))])).add (.cells [.str (mkS s)])).add (.cells [.str (mkS t)])) := (((Keeps.refl _ S).add _).add _).add _
  have b0 : (((S.add (.cells [.ptr (some (i, 0))])).add (.cells [.str (mkS s)])).add (.cells [.str (mkS t)])).cells S.n = some [.ptr (some (i, 0))] := by simp only [go_sem, e1, e2]
  have b1 : (((S.add (.cells [.ptr (some (i, 0))])).add (.cells [.str (mkS s)])).add (.cells [.str (mkS t)])).cells (S.n + 1) = some [.str (mkS s)] := by simp only [go_sem, e1, e2, e3]
  have b2 : (((S.add (.cells [.ptr (some (i, 0))])).add (.cells [.str (mkS s)])).add (.cells [.str (mkS t)])).cells (S.n + 2) = some [.str (mkS t)] := by simp only [go_sem]
  have n0 : (((S.add (.cells [.ptr (some (i, 0))])).add (.cells [.str (mkS s)])).add (.cells [.str (mkS t)])).n = S.n + 3 := rfl
  have hlt := h.lt
  refine RSim.run mixed k_disk_Disk_Rename ?_ (by simp)
  simp only [b_disk_Disk_Rename, go_sem, e1, e2, e3]
  generalize ((S.add (.cells [.ptr (some (i, 0))])).add (.cells [.str (mkS s)])).add (.cells [.str (mkS t)]) = S0 at k0 b0 b1 b2 n0 ⊢
  refine wi_call ?_
  simp only [go_sem]
  have h0 := h.stay k0
  have stay : ∀ e : Int, D.abs.rename s t = (e, D.abs) → Q (.ret (.int .i64 e)) S0 := fun e he => by
    rw [he] at hQ
    exact hQ S0 D h0 rfl (k0.mono fun _ _ e => e.elim) fun j hj => hj
  refine look_runs (names := [s, t]) (t := .cap) (by intro h; cases h) (by simp) (by simp; exact ⟨hs, htl⟩) ?_
  rw [lookE_two]
  by_cases hn : nameOk s = false ∨ nameOk t = false
  · rw [if_pos hn]
    simp only [go_sem]
    refine wc_ite (b := true) (by simp only [go_sem] <;> rfl) (fun _ => ?_) (fun h => by cases h)
    simp only [go_sem]
    exact stay 1 (by unfold DS.rename; rw [if_pos hn])
  · rw [if_neg hn]
    have hns : nameOk s = true := by cases h' : nameOk s <;> simp [h'] at hn ⊢
    have hnt : nameOk t = true := by cases h' : nameOk t <;> simp [h'] at hn ⊢
    simp only [go_sem, b0, b1, b2]
    refine wc_ite (b := false) (by simp only [go_sem] <;> rfl) (fun h => by cases h) (fun _ => ?_)
    simp only [go_sem, b0, b1, b2]
    refine wc_ite (b := decide (s = t)) (by simp only [go_sem]) (fun hc => ?_) (fun hc => ?_)
    · simp only [go_sem]
      exact stay 1 (by unfold DS.rename; rw [if_neg hn, if_pos (of_decide_eq_true hc)])
    · have hst : s ≠ t := of_decide_eq_false hc
      have last : D.abs.rename s t = D.abs.change s (renF s t) → ∀ fr : Fr, fr 3 = .ptr (some (S.n, 0)) → fr 4 = .ptr (some (S.n + 1, 0)) → fr 5 = .ptr (some (S.n + 2, 0)) →
          wCode (RSim Tryz.prog w0) (.seq (.reg [] [.run ⟨(some 47), none, .f (.load false 1 (.t 3))⟩,
    .run ⟨(some 48), none, .f (.load false 1 (.t 4))⟩,
    .run ⟨(some 49), none, .f (.mkFunc n_disk_Disk_Rename_1 [] [(.t 3), (.t 4), (.t 5)])⟩,
    .run ⟨(some 50), none, .e (.call n_disk_Disk_change [(.t 47), (.t 48), (.t 49)])⟩,
    .run ⟨(some 6), none, .f (.mv (.t 50))⟩])
   .ret) fr S0 (resQ [.tmp 6] Q) := by
        intro hre fr f3 f4 f5
        rw [hre] at hQ
        simp only [go_sem, f3, f4, f5, b0, b1, b2]
        refine wi_call ?_
        simp only [go_sem]
        refine change_runs h0 hs (fun hno => ?_) (fun a e b S1 h1 h2 he hsn ha ho d1 k1 => ?_) (fun a e b S1 h1 h2 he hsn ha ho d1 k1 => ?_)
        · simp only [go_sem]
          rw [change_no (renF s t) hno] at hQ
          exact hQ S0 D h0 rfl (k0.mono fun _ _ e => e.elim) fun j hj => hj
        · simp only [go_sem]
          rw [change_yes (renF s t) h1 h2 he hsn ha, if_pos ho] at hQ
          exact hQ S1 _ d1 rfl ((k0.mono (o' := ownD i D) fun _ _ e => e.elim).trans k1 fun _ _ e => .inl e) fun j hj => hj
        · rw [change_yes (renF s t) h1 h2 he hsn ha, if_neg (by simp [ho])] at hQ
          refine renFn_runs (B := S.n) d1 he hsn ha hst hnt (k1.cells b0 (by omega) (by omega)) (k1.cells b1 (by omega) (by omega)) (k1.cells b2 (by omega) (by omega)) (by have := k1.n; omega) (fun j hj e => by omega) fun S' D' dA hD' k2 oA => ?_
          simp only [go_sem]
          exact hQ S' D' dA hD' (((k0.mono (o' := ownD i D) fun _ _ e => e.elim).trans k1 fun _ _ e => .inl e).trans k2 fun j _ e => e.elim .inl fun e => .inr (.inl e)) oA
      rcases find_cases s D.ents with ⟨a, e, b, he, hsn, ha⟩ | hno
      · have hf := findE_some (b := b) hsn a 0 ha
        rw [← he] at hf
        have hE := h0.ents e (by rw [he]; simp)
        have hfs : findF s D.abs.files = some e.file := by simp only [Dk.abs, he]; exact findF_some hsn ha
        simp only [go_sem, b0, b1, h0.head, h0.map, hf, Dk.cells, hE.cells]
        have hdec : decide ((e.sure : Int) < (e.p.length : Int)) = decide (e.sure < e.p.length) := dec_eq (by omega)
        cases hoff : D.off with
        | true =>
          simp only [go_sem, hoff]
          refine wc_ite (b := false) (by simp only [go_sem] <;> rfl) (fun h => by cases h) (fun _ => ?_)
          simp only [wc_skip, seqQ_normal]
          refine last ?_ _ (by simp only [go_sem]) (by simp only [go_sem]) (by simp only [go_sem])
          unfold DS.rename
          rw [if_neg hn, if_neg hst, if_neg (by rintro ⟨h', _⟩; rw [show D.abs.off = D.off from rfl, hoff] at h'; cases h')]
        | false =>
          simp only [go_sem, hoff, hE.cells, hdec]
          refine wc_ite (b := decide (e.sure < e.p.length)) (by simp only [go_sem]) (fun hc => ?_) (fun hc => ?_)
          · simp only [go_sem]
            refine stay 12 ?_
            unfold DS.rename
            rw [if_neg hn, if_neg hst, if_pos ⟨hoff, e.file, hfs, of_decide_eq_true (by assumption)⟩]
          · simp only [wc_skip, seqQ_normal]
            refine last ?_ _ (by simp only [go_sem]) (by simp only [go_sem]) (by simp only [go_sem])
            unfold DS.rename
            rw [if_neg hn, if_neg hst, if_neg]
            rintro ⟨_, x, hx, hx'⟩
            rw [hfs] at hx
            injection hx with hx
            subst hx
            exact of_decide_eq_false (by assumption) hx'
      · have hf := findE_none D.ents 0 hno
        have hfs : findF s D.abs.files = none := findF_none hno
        have hre : D.abs.rename s t = D.abs.change s (renF s t) := by
          unfold DS.rename
          rw [if_neg hn, if_neg hst, if_neg]
          rintro ⟨_, x, hx, hx'⟩
          rw [hfs] at hx
          cases hx
        simp only [go_sem, b0, b1, h0.head, h0.map, hf, Dk.cells]
        cases hoff : D.off with
        | true =>
          simp only [go_sem, hoff]
          refine wc_ite (b := false) (by simp only [go_sem] <;> rfl) (fun h => by cases h) (fun _ => ?_)
          simp only [wc_skip, seqQ_normal]
          exact last hre _ (by simp only [go_sem]) (by simp only [go_sem]) (by simp only [go_sem])
        | false =>
          simp only [go_sem, hoff]
          refine wc_ite (b := false) (by simp only [go_sem] <;> rfl) (fun h => by cases h) (fun _ => ?_)
          simp only [wc_skip, seqQ_normal]
          exact last hre _ (by simp only [go_sem]) (by simp only [go_sem]) (by simp only [go_sem])
end Go.VM
