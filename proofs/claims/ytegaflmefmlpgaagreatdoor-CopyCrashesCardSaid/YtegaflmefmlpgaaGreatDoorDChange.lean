/-
  change, Sync, Remove. NEWPP
-/
import Derived.Test.YtegaflmefmlpgaaGreatDoorDGrow
set_option linter.unusedVariables false
set_option linter.unusedSimpArgs false
namespace Go.VM
open Go Go.RowKit Go.Proofs

theorem wi_callV {cl : Cl} {fr : Fr} {S : St} {K : Fr → St → Prop} {Kp : V → St → Prop} {dst : Option Nat} {x : Arg} {f : FuncId} {pre cap : List V} {args : List Arg} {r : List Item} (hx : x.ev fr = .func f pre cap)
    (h : cl f (pre ++ args.map (Arg.ev fr) ++ cap) S (retQ (fun v S' => wItems cl r (fr.put dst v) S' K Kp) Kp)) : wItems cl (.run ⟨dst, none, .e (.callV x args)⟩ :: r) fr S K Kp := by
  refine wi_e ?_
  simp only [wE, hx]
  have e : retQ (fun v S' => wItems cl r (fr.put dst v) S' K Kp) Kp = (fun | .ret v, S' => wItems cl r (fr.put dst v) S' K Kp | .pan v, S' => Kp v S') := by
    funext e S'
    cases e <;> rfl
  rw [e] at h
  exact h

theorem change_nil {w0 : World} {S : St} {Q : AEnd → St → Prop} {s : List UInt8} {v : V} (hQ : Q (.ret (.int .i64 8)) S) : RSim Tryz.prog w0 n_disk_Disk_change [.ptr none, .str (mkS s), v] S Q := by
  refine RSim.run mixed k_disk_Disk_change ?_ (by simp)
  simp only [b_disk_Disk_change, go_sem]
  refine wi_call ?_
  simp only [go_sem]
  refine look_nil ?_
  simp only [go_sem]
  refine wc_ite (b := true) (by simp only [go_sem] <;> rfl) (fun _ => ?_) (fun h => by cases h)
  simp only [go_sem]
  exact hQ
theorem change_runs {w0 : World} {S : St} {Q : AEnd → St → Prop} {i : Nat} {D : Dk} {s : List UInt8} {g : FuncId} {cap : List V} (h : DiskAt S i D) (hs : s.length ≤ 1000000000000000)
    (hQ' : (nameOk s = false ∨ D.off = true ∨ ∀ x ∈ D.ents, x.name ≠ s) → Q (.ret (.int .i64 (D.thereE s))) S)
    (hQo : ∀ a e b S1, nameOk s = true → D.off = false → D.ents = a ++ e :: b → e.name = s → (∀ x ∈ a, x.name ≠ s) → D.begun.off = true → DiskAt S1 i D.begun → Keeps (fun j => j = i) S S1 → Q (.ret (.int .i64 10)) S1)
    (hQ : ∀ a e b S1, nameOk s = true → D.off = false → D.ents = a ++ e :: b → e.name = s → (∀ x ∈ a, x.name ≠ s) → D.begun.off = false → DiskAt S1 i D.begun → Keeps (fun j => j = i) S S1 →
      RSim Tryz.prog w0 g ([.ptr (some (e.f, 0))] ++ cap) S1 (retQ (fun _ S' => Q (.ret (.int .i64 0)) S') fun v S' => Q (.pan v) S')) :
    RSim Tryz.prog w0 n_disk_Disk_change [.ptr (some (i, 0)), .str (mkS s), .func g [] cap] S Q := by
  have h1 := h.head
  have hm := h.map
  refine RSim.run mixed k_disk_Disk_change ?_ (by simp)
  simp only [b_disk_Disk_change, go_sem]
  refine wi_call ?_
  simp only [go_sem]
  refine look1_runs hs (fun hn => ?_) (fun hn => ?_)
  · simp only [Dk.thereE, hn, if_false, reduceCtorEq] at hQ'
    simp only [go_sem]
    refine wc_ite (b := false) (by simp only [go_sem] <;> rfl) (fun h => by cases h) (fun _ => ?_)
    simp only [go_sem, h1, Dk.cells]
    refine wc_ite (b := D.off) (by simp only [go_sem]) (fun hc => ?_) (fun hc => ?_)
    · simp only [go_sem]
      rw [if_pos hc] at hQ'
      exact hQ' (.inr (.inl hc))
    · have hoff : D.off = false := hc
      rw [if_neg (by rw [hc]; simp)] at hQ'
      rcases find_cases s D.ents with ⟨a, e, b, he, hsn, ha⟩ | hno
      · have hf := findE_some (b := b) hsn a 0 ha
        rw [← he] at hf
        simp only [go_sem, h1, hm, hf, Dk.cells]
        refine wc_ite (b := false) (by simp only [go_sem] <;> rfl) (fun h => by cases h) (fun _ => ?_)
        simp only [go_sem]
        refine wi_call ?_
        simp only [go_sem]
        refine begin_runs h hoff fun S1 d1 k1 => ?_
        simp only [go_sem]
        refine wc_ite (b := D.begun.off) (by simp only [go_sem]) (fun hc => ?_) (fun hc => ?_)
        · simp only [go_sem]
          exact hQo a e b S1 hn hoff he hsn ha hc d1 k1
        · simp only [go_sem]
          refine wi_callV (f := g) (pre := []) (cap := cap) (by simp only [go_sem]) ?_
          simp only [go_sem]
          exact hQ a e b S1 hn hoff he hsn ha hc d1 k1
      · have hf := findE_none D.ents 0 hno
        simp only [go_sem, h1, hm, hf, Dk.cells]
        refine wc_ite (b := true) (by simp only [go_sem] <;> rfl) (fun _ => ?_) (fun h => by cases h)
        simp only [go_sem]
        exact hQ' (.inr (.inr hno))
  · simp only [Dk.thereE, hn, if_true] at hQ'
    simp only [go_sem]
    refine wc_ite (b := true) (by simp only [go_sem] <;> rfl) (fun _ => ?_) (fun h => by cases h)
    simp only [go_sem]
    exact hQ' (.inl trivial)

def DS.change (D : DS) (s : List UInt8) (F : DS → File → DS) : Int × DS :=
  if nameOk s = false then (1, D) else if D.off = true then (10, D) else
  match findF s D.files with
  | none => (8, D)
  | some x => if D.begun.off = true then (10, D.begun) else (0, F D.begun x)
def DS.sync (D : DS) (s : List UInt8) : Int × DS := D.change s fun D x => { D with files := putF { x with sure := x.p.length } D.files }
def DS.remove (D : DS) (s : List UInt8) : Int × DS := D.change s fun D x => { D with files := delF s D.files, used := D.used - x.p.length }
theorem change_no {D : Dk} {s : List UInt8} (F : DS → File → DS) (h : nameOk s = false ∨ D.off = true ∨ ∀ x ∈ D.ents, x.name ≠ s) : D.abs.change s F = (D.thereE s, D.abs) := by
  unfold DS.change Dk.thereE
  by_cases h1 : nameOk s = false
  · rw [if_pos h1, if_pos h1]
  · rw [if_neg h1, if_neg h1]
    by_cases h2 : D.off = true
    · rw [if_pos (show D.abs.off = true from h2), if_pos h2]
    · rw [if_neg (show ¬ D.abs.off = true from h2), if_neg h2]
      have h3 : ∀ x ∈ D.ents, x.name ≠ s := by
        rcases h with h | h | h
        · exact absurd h h1
        · exact absurd h h2
        · exact h
      have : findF s D.abs.files = none := findF_none h3
      rw [this]
theorem change_yes {D : Dk} {s : List UInt8} {a b : List Ent} {e : Ent} (F : DS → File → DS) (h1 : nameOk s = true) (h2 : D.off = false) (he : D.ents = a ++ e :: b) (hs : e.name = s) (ha : ∀ x ∈ a, x.name ≠ s) :
    D.abs.change s F = if D.begun.off = true then (10, D.abs.begun) else (0, F D.abs.begun e.file) := by
  unfold DS.change
  rw [if_neg (by simp [h1]), if_neg (show ¬ D.abs.off = true by simp [Dk.abs, h2])]
  have : findF s D.abs.files = some e.file := by
    simp only [Dk.abs, he]; exact findF_some hs ha
  rw [this]
  rfl

theorem own_i (i : Nat) (D : Dk) : ∀ j, j < i + j + 1 → j = i → ownD i D j := fun j _ e => .inl e

theorem sync_runs {w0 : World} {S : St} {Q : AEnd → St → Prop} {i : Nat} {D : Dk} {s : List UInt8} (h : DiskAt S i D) (hs : s.length ≤ 1000000000000000)
    (hQ : ∀ S' D', DiskAt S' i D' → D'.abs = (D.abs.sync s).2 → Keeps (ownD i D) S S' → (∀ j, ownD i D' j → ownD i D j ∨ S.n ≤ j) → Q (.ret (.int .i64 (D.abs.sync s).1)) S') :
    RSim Tryz.prog w0 n_disk_Disk_Sync [.ptr (some (i, 0)), .str (mkS s)] S Q := by
  refine RSim.run mixed k_disk_Disk_Sync ?_ (by simp)
  simp only [b_disk_Disk_Sync, go_sem]
  refine wi_call ?_
  simp only [go_sem]
  refine change_runs h hs (fun hno => ?_) (fun a e b S1 h1 h2 he hsn ha ho d1 k1 => ?_) (fun a e b S1 h1 h2 he hsn ha ho d1 k1 => ?_)
  · simp only [go_sem]
    have e := change_no (fun D x => { D with files := putF { x with sure := x.p.length } D.files }) hno
    unfold DS.sync at hQ
    rw [e] at hQ
    exact hQ S D h rfl (Keeps.refl _ _) fun j hj => .inl hj
  · simp only [go_sem]
    have e' := change_yes (fun D x => { D with files := putF { x with sure := x.p.length } D.files }) h1 h2 he hsn ha
    unfold DS.sync at hQ
    rw [e', if_pos ho] at hQ
    exact hQ S1 _ d1 rfl (k1.mono fun _ _ e => .inl e) fun j hj => .inl hj
  · have e' := change_yes (fun D x => { D with files := putF { x with sure := x.p.length } D.files }) h1 h2 he hsn ha
    unfold DS.sync at hQ
    rw [e', if_neg (by simp [ho])] at hQ
    have hem : e ∈ D.ents := by rw [he]; simp
    have hE1 := d1.ents e hem
    have hif : ¬ i = e.f := h.ne_f hem
    refine RSim.run mixed k_disk_Disk_Sync_1 ?_ (by simp)
    simp only [b_disk_Disk_Sync_1, go_sem, hE1.cells]
    have k2 : Keeps (fun j => j = e.f) S1 (S1.set e.f (.cells [.sl (e.p.map u8V) e.p.length 1 e.t, .int .i64 e.p.length])) := Keeps.set1 _ _ _
    have hE : EntAt (S1.set e.f (.cells [.sl (e.p.map u8V) e.p.length 1 e.t, .int .i64 e.p.length])) { e with sure := e.p.length } :=
      ⟨by rw [cells_setc, if_pos rfl], hE1.lt, hE1.tok.keep k2 fun j hj e' => by subst e'; exact tok_cells hE1.tok (hp_cells hE1.cells) (by intro x; cases x) hj, hE1.nil⟩
    have kA : Keeps (fun j => j = i ∨ j = e.f ∨ e.t = .at j) S _ := (k1.mono fun _ _ h => .inl h).trans (k2.mono (o' := fun j => j = i ∨ j = e.f ∨ e.t = .at j) fun _ _ h => .inr (.inl h)) fun _ _ h => h
    have kB : Keeps (fun j => j = i ∨ j = e.f ∨ e.t = .at j) S1 _ := k2.mono (o' := fun j => j = i ∨ j = e.f ∨ e.t = .at j) fun _ _ h => .inr (.inl h)
    obtain ⟨dA, oA⟩ := d1.repl (e' := { e with sure := e.p.length }) (D' := { D.begun with ents := a ++ { e with sure := e.p.length } :: b }) he kB (fun _ h => h) (k2.cells d1.head d1.lt hif) rfl rfl rfl rfl rfl rfl hE (fun j hj => .inr hj) (by
      refine ⟨?_, h.wf.fits, h.wf.room, fun x hx => ?_, fun x hx => ?_⟩
      · show D.used = ((sumLen (a ++ { e with sure := e.p.length } :: b) : Nat) : Int)
        rw [h.wf.used, he, sumLen_mid, sumLen_mid]
      · rcases List.mem_append.1 hx with hx | hx
        · exact h.wf.sure x (by rw [he]; simp [hx])
        · rcases List.mem_cons.1 hx with rfl | hx
          · exact Nat.le_refl _
          · exact h.wf.sure x (by rw [he]; simp [hx])
      · rcases List.mem_append.1 hx with hx | hx
        · exact h.wf.names x (by rw [he]; simp [hx])
        · rcases List.mem_cons.1 hx with rfl | hx
          · exact h.wf.names e hem
          · exact h.wf.names x (by rw [he]; simp [hx]))
    refine hQ _ _ dA ?_ (kA.mono fun j _ e' => ?_) fun j hj => ?_
    · simp only [Dk.abs, Dk.begun, DS.begun]
      have := putF_some (s := s) (e := e) (e' := { e with sure := e.p.length }) (b := b) hsn hsn ha
      rw [← he] at this
      rw [← this]; rfl
    · rcases e' with e' | e' | e'
      · exact .inl e'
      · exact .inr (.inr ⟨e, hem, .inl e'⟩)
      · exact .inr (.inr ⟨e, hem, .inr e'⟩)
    · rcases oA j hj with h6 | h6
      · exact .inl h6
      · exact .inr (Nat.le_trans k1.n h6)

/-- The map is another one, of the same files (some have gone; some have other names). -/
theorem DiskAt.reorg {S S' : St} {i : Nat} {D D' : Dk} (h : DiskAt S i D) (k : Keeps (fun j => j = i ∨ j = D.m) S S')
    (hh : S'.cells i = some D'.cells) (hm : S'.hp D.m = some (.map (D'.ents.map Ent.cell) D'.c)) (em : D'.m = D.m) (sub : ∀ x ∈ D'.ents, ∃ y ∈ D.ents, x.f = y.f ∧ x.p = y.p ∧ x.t = y.t ∧ x.sure = y.sure)
    (h1 : (D'.ents.map (·.name)).Nodup) (h2 : (D'.ents.map (·.f)).Nodup) (h3 : (D'.ents.map (·.born)).Nodup) (h4 : ∀ e ∈ D'.ents, e.born < D'.c) (h5 : D'.ents.Pairwise fun a b => ∀ k, a.t = .at k → b.t ≠ .at k) (hw : D'.Wf) :
    DiskAt S' i D' ∧ (∀ j, ownD i D' j → ownD i D j) := by
  refine ⟨⟨hh, k.lt h.lt, by rw [em]; exact hm, by rw [em]; exact k.lt h.mlt, fun x hx => ?_, h1, h2, h3, h4, h5, hw⟩, fun j hj => ?_⟩
  · obtain ⟨y, hy, e1, e2, e3, e4⟩ := sub x hx
    have := (h.ents y hy).keep k (fun hj => hj.elim (fun h' => h.ne_f hy h'.symm) fun h' => h.ne_mf hy h'.symm) fun j hj hoj => by
      rcases hoj with h' | h'
      · subst h'; exact tok_cells (h.ents y hy).tok (hp_cells h.head) (by intro x; cases x) hj
      · subst h'; exact tok_cells (h.ents y hy).tok h.map (by intro x; cases x) hj
    exact ⟨by rw [e1, e2, e3, e4]; exact this.cells, by rw [e1]; exact this.lt, by rw [e3]; exact this.tok, by rw [e2, e3]; exact this.nil⟩
  · rcases hj with rfl | rfl | ⟨x, hx, hj⟩
    · exact .inl rfl
    · exact .inr (.inl em)
    · obtain ⟨y, hy, e1, e2, e3, e4⟩ := sub x hx
      exact .inr (.inr ⟨y, hy, by rw [e1, e3] at hj; exact hj⟩)

theorem eraseIdx_mid {α : Type} (a b : List α) (e : α) : (a ++ e :: b).eraseIdx (0 + a.length) = a ++ b := by
  rw [Nat.zero_add]
  induction a with
  | nil => rfl
  | cons x a ih => simp [ih]

theorem remove_runs {w0 : World} {S : St} {Q : AEnd → St → Prop} {i : Nat} {D : Dk} {s : List UInt8} (h : DiskAt S i D) (hs : s.length ≤ 1000000000000000)
    (hQ : ∀ S' D', DiskAt S' i D' → D'.abs = (D.abs.remove s).2 → Keeps (ownD i D) S S' → (∀ j, ownD i D' j → ownD i D j) → Q (.ret (.int .i64 (D.abs.remove s).1)) S') :
    RSim Tryz.prog w0 n_disk_Disk_Remove [.ptr (some (i, 0)), .str (mkS s)] S Q := by
  refine RSim.run mixed k_disk_Disk_Remove ?_ (by simp)
  simp only [b_disk_Disk_Remove, go_sem]
  have k0 : Keeps (fun _ => False) S ((S.add (.cells [.ptr (some (i, 0))])).add (.cells [.str (mkS s)])) := ((Keeps.refl _ S).add _).add _
  have b0 : ((S.add (.cells [.ptr (some (i, 0))])).add (.cells [.str (mkS s)])).cells S.n = some [.ptr (some (i, 0))] := by
    have : ¬ S.n = S.n + 1 := by omega
    simp only [go_sem, this]
  have b1 : ((S.add (.cells [.ptr (some (i, 0))])).add (.cells [.str (mkS s)])).cells (S.n + 1) = some [.str (mkS s)] := by simp only [go_sem]
  have n0 : ((S.add (.cells [.ptr (some (i, 0))])).add (.cells [.str (mkS s)])).n = S.n + 2 := rfl
  generalize (S.add (.cells [.ptr (some (i, 0))])).add (.cells [.str (mkS s)]) = S0 at k0 b0 b1 n0 ⊢
  refine wi_call ?_
  simp only [go_sem]
  have h0 := h.stay k0
  refine change_runs h0 hs (fun hno => ?_) (fun a e b S1 h1 h2 he hsn ha ho d1 k1 => ?_) (fun a e b S1 h1 h2 he hsn ha ho d1 k1 => ?_)
  · simp only [go_sem]
    have e := change_no (fun D x => { D with files := delF s D.files, used := D.used - x.p.length }) hno
    unfold DS.remove at hQ
    rw [e] at hQ
    exact hQ S0 D h0 rfl (k0.mono fun _ _ e => e.elim) fun j hj => hj
  · simp only [go_sem]
    have e' := change_yes (fun D x => { D with files := delF s D.files, used := D.used - x.p.length }) h1 h2 he hsn ha
    unfold DS.remove at hQ
    rw [e', if_pos ho] at hQ
    exact hQ S1 _ d1 rfl ((k0.mono (o' := ownD i D) fun _ _ e => e.elim).trans k1 fun _ _ e => .inl e) fun j hj => hj
  · have e' := change_yes (fun D x => { D with files := delF s D.files, used := D.used - x.p.length }) h1 h2 he hsn ha
    unfold DS.remove at hQ
    rw [e', if_neg (by simp [ho])] at hQ
    have hem : e ∈ D.ents := by rw [he]; simp
    have hE1 := d1.ents e hem
    have hlt := h.lt
    have b0' := k1.cells b0 (by omega) (show ¬ S.n = i by omega)
    have b1' := k1.cells b1 (by omega) (show ¬ S.n + 1 = i by omega)
    have hi0 : ¬ S.n = i := by omega
    have hi1 : ¬ S.n + 1 = i := by omega
    have hm1 : ¬ D.begun.m = i := Ne.symm d1.ne_m
    have hf := findE_some (b := b) hsn a 0 ha
    rw [← he] at hf
    have hus := h.wf.used; have hfi := h.wf.fits; have hro := h.wf.room
    have hle := sumLen_mem hem
    have hw : IntKind.i64.wrap (D.begun.used - (e.p.length : Int)) = D.used - e.p.length :=
      w64 (by show -9223372036854775808 ≤ D.used - (e.p.length : Int); omega) (by show D.used - (e.p.length : Int) < _; omega)
    have hfd : findE .str (.str (mkS s)) (D.begun.ents.map Ent.cell) 0 = some (some (0 + a.length, .ptr (some (e.f, 0)))) := hf
    refine RSim.run mixed k_disk_Disk_Remove_1 ?_ (by simp)
    simp only [b_disk_Disk_Remove_1, go_sem, b0', b1', d1.head, Dk.cells, hE1.cells, hi0, hi1, hw]
    refine wi_e ?_
    simp only [wE]
    simp only [go_sem, d1.map, hm1, hfd]
    have hers : (D.begun.ents.map Ent.cell).eraseIdx a.length = (a ++ b).map Ent.cell := by
      show (D.ents.map Ent.cell).eraseIdx a.length = _
      have := eraseIdx_mid (a.map Ent.cell) (b.map Ent.cell) e.cell
      rw [List.length_map, Nat.zero_add] at this
      rw [he, List.map_append, List.map_cons, this, List.map_append]
    rw [hers]
    generalize hS2 : (S1.set i (.cells [.map (some D.begun.m), .int .i64 D.begun.room, .int .i64 (D.used - e.p.length), .int .i64 D.begun.ops, .int .i64 D.begun.arm, .bool D.begun.off])).set D.begun.m (.map ((a ++ b).map Ent.cell) D.begun.c) = S2
    have k2 : Keeps (fun j => j = i ∨ j = D.begun.m) S1 S2 := hS2 ▸ ((Keeps.refl (fun j => j = i ∨ j = D.begun.m) S1).set (i := i) (.inl (.inl rfl)) _).set (i := D.begun.m) (.inl (.inr rfl)) _
    have i2 : S2.cells i = some [.map (some D.begun.m), .int .i64 D.begun.room, .int .i64 (D.used - e.p.length), .int .i64 D.begun.ops, .int .i64 D.begun.arm, .bool D.begun.off] := by
      have : ¬ i = D.begun.m := d1.ne_m
      rw [← hS2]; simp only [St.cells, St.set_hp, this, if_false, if_true]
    have m2 : S2.hp D.begun.m = some (.map ((a ++ b).map Ent.cell) D.begun.c) := by rw [← hS2]; simp only [St.set_hp, if_true]
    clear hS2
    have hsub : (a ++ b).Sublist D.ents := by rw [he]; exact List.Sublist.append (List.Sublist.refl a) (List.sublist_cons_self e b)
    obtain ⟨dA, oA⟩ := d1.reorg (D' := { D.begun with ents := a ++ b, used := D.used - e.p.length }) k2 i2 m2 rfl (fun x hx => ⟨x, hsub.subset hx, rfl, rfl, rfl, rfl⟩) (h.names.sublist (hsub.map _)) (h.objs.sublist (hsub.map _)) (h.born.sublist (hsub.map _)) (fun x hx => h.clock x (hsub.subset hx)) (h.toks.sublist hsub) (by
      refine ⟨?_, ?_, hro, fun x hx => h.wf.sure x (hsub.subset hx), fun x hx => h.wf.names x (hsub.subset hx)⟩
      · show D.used - (e.p.length : Int) = ((sumLen (a ++ b) : Nat) : Int)
        rw [he, sumLen_mid] at hus
        have : sumLen (a ++ b) = sumLen a + sumLen b := by simp [sumLen]
        omega
      · show D.used - (e.p.length : Int) ≤ D.room
        omega)
    refine hQ _ _ dA ?_ (((k0.mono (o' := ownD i D) fun _ _ e => e.elim).trans k1 fun _ _ e => .inl e).trans k2 fun j _ e => e.elim .inl fun e => .inr (.inl e)) oA
    simp only [Dk.abs, Dk.begun, DS.begun]
    have := delF_some (s := s) (e := e) (b := b) hsn ha
    rw [← he] at this
    rw [← this]; rfl

theorem sync_nil {w0 : World} {S : St} {Q : AEnd → St → Prop} {s : List UInt8} (hQ : Q (.ret (.int .i64 8)) S) : RSim Tryz.prog w0 n_disk_Disk_Sync [.ptr none, .str (mkS s)] S Q := by
  refine RSim.run mixed k_disk_Disk_Sync ?_ (by simp)
  simp only [b_disk_Disk_Sync, go_sem]
  refine wi_call ?_
  simp only [go_sem]
  refine change_nil ?_
  simp only [go_sem]
  exact hQ
theorem remove_nil {w0 : World} {S : St} {Q : AEnd → St → Prop} {s : List UInt8} (hQ : ∀ S', Keeps (fun _ => False) S S' → Q (.ret (.int .i64 8)) S') : RSim Tryz.prog w0 n_disk_Disk_Remove [.ptr none, .str (mkS s)] S Q := by
  have k0 : Keeps (fun _ => False) S ((S.add (.cells [.ptr none])).add (.cells [.str (mkS s)])) := ((Keeps.refl _ S).add _).add _
  have : ¬ S.n = S.n + 1 := by omega
  refine RSim.run mixed k_disk_Disk_Remove ?_ (by simp)
  simp only [b_disk_Disk_Remove, go_sem, this]
  refine wi_call ?_
  simp only [go_sem]
  refine change_nil ?_
  simp only [go_sem]
  exact hQ _ k0
end Go.VM
