/-
  grow, Append, Put. NEWPP
-/
import Derived.Test.YtegaflmefmlpgaaGreatDoorDSpec
set_option linter.unusedVariables false
set_option linter.unusedSimpArgs false
namespace Go.VM
open Go Go.RowKit Go.Proofs

/-- One entry is another one. -/
theorem DiskAt.repl {S S' : St} {i : Nat} {D D' : Dk} {a b : List Ent} {e e' : Ent} {o : Nat → Prop} (h : DiskAt S i D) (he : D.ents = a ++ e :: b) (k : Keeps o S S') (ho : ∀ j, o j → j = i ∨ j = e.f ∨ e.t = .at j)
    (hh : S'.cells i = some D'.cells) (em : D'.m = D.m) (ec : D'.c = D.c) (ee : D'.ents = a ++ e' :: b) (h1 : e'.name = e.name) (h2 : e'.f = e.f) (h3 : e'.born = e.born) (hE : EntAt S' e') (ht : ∀ j, e'.t = .at j → S.n ≤ j ∨ e.t = .at j) (hw : D'.Wf) :
    DiskAt S' i D' ∧ (∀ j, ownD i D' j → ownD i D j ∨ S.n ≤ j) := by
  have hem : e ∈ D.ents := by rw [he]; simp
  have htoks := h.toks
  rw [he] at htoks
  obtain ⟨ta, tb, tab⟩ := List.pairwise_append.1 htoks
  rw [List.pairwise_cons] at tb
  have hobj := h.objs
  rw [he] at hobj
  have hold : ∀ x, x ∈ a ∨ x ∈ b → x ∈ D.ents := fun x hx => by rw [he]; rcases hx with hx | hx <;> simp [hx]
  have hne : ∀ x, x ∈ a ∨ x ∈ b → x.f ≠ e.f := fun x hx e' => by
    simp only [List.map_append, List.map_cons] at hobj
    rw [List.nodup_append] at hobj
    rcases hx with hx | hx
    · exact hobj.2.2 x.f (List.mem_map.2 ⟨x, hx, rfl⟩) e.f (by simp) e'
    · have := hobj.2.1
      rw [List.nodup_cons] at this
      exact this.1 (List.mem_map.2 ⟨x, hx, e'⟩)
  have htne : ∀ x, x ∈ a ∨ x ∈ b → ∀ j, x.t = .at j → e.t ≠ .at j := fun x hx j hj => by
    rcases hx with hx | hx
    · exact tab x hx e (by simp) j hj
    · exact fun he' => tb.1 x hx j he' hj
  have hkeep : ∀ x, x ∈ a ∨ x ∈ b → EntAt S' x := fun x hx => by
    have hx' := hold x hx
    refine (h.ents x hx').keep k (fun hj => ?_) fun j hj hoj => ?_
    · rcases ho _ hj with h' | h' | h'
      · exact h.ne_f hx' h'.symm
      · exact hne x hx h'
      · exact tok_cells (h.ents e hem).tok (hp_cells (h.ents x hx').cells) (by intro x; cases x) h'
    · rcases ho _ hoj with h' | h' | h'
      · subst h'; exact tok_cells (h.ents x hx').tok (hp_cells h.head) (by intro x; cases x) hj
      · subst h'; exact tok_cells (h.ents x hx').tok (hp_cells (h.ents e hem).cells) (by intro x; cases x) hj
      · exact htne x hx j hj h'
  have hcell : D'.ents.map Ent.cell = D.ents.map Ent.cell := by
    rw [ee, he]; simp [Ent.cell, h1, h2, h3]
  refine ⟨⟨hh, k.lt h.lt, ?_, by rw [em]; exact k.lt h.mlt, fun x hx => ?_, ?_, ?_, ?_, fun x hx => ?_, ?_, hw⟩, fun j hj => ?_⟩
  · rw [em, ec, hcell]
    refine hp_keep h.map k h.mlt fun hj => ?_
    rcases ho _ hj with h' | h' | h'
    · exact h.ne_m h'.symm
    · exact h.ne_mf hem h'
    · exact tok_cells (h.ents e hem).tok h.map (by intro x; cases x) h'
  · rw [ee] at hx
    rcases List.mem_append.1 hx with hx | hx
    · exact hkeep x (.inl hx)
    · rcases List.mem_cons.1 hx with rfl | hx
      · exact hE
      · exact hkeep x (.inr hx)
  · have := h.names; rw [he] at this; rw [ee]; simpa [h1] using this
  · have := h.objs; rw [he] at this; rw [ee]; simpa [h2] using this
  · have := h.born; rw [he] at this; rw [ee]; simpa [h3] using this
  · rw [ec]
    rw [ee] at hx
    rcases List.mem_append.1 hx with hx | hx
    · exact h.clock x (hold x (.inl hx))
    · rcases List.mem_cons.1 hx with rfl | hx
      · rw [h3]; exact h.clock e hem
      · exact h.clock x (hold x (.inr hx))
  · have old : ∀ x, x ∈ a ∨ x ∈ b → ∀ j, x.t = .at j → j < S.n := fun x hx j hj => by
      have := (h.ents x (hold x hx)).tok
      rw [hj] at this; exact this.1
    rw [ee, List.pairwise_append, List.pairwise_cons]
    refine ⟨ta, ⟨fun x hx j hj hj' => ?_, tb.2⟩, fun x hx y hy j hj hj' => ?_⟩
    · have := old x (.inr hx) j hj'
      rcases ht j hj with h6 | h6
      · omega
      · exact tb.1 x hx j h6 hj'
    · rcases List.mem_cons.1 hy with rfl | hy
      · have := old x (.inl hx) j hj
        rcases ht j hj' with h6 | h6
        · omega
        · exact tab x hx e (by simp) j hj h6
      · exact tab x hx y (by simp [hy]) j hj hj'
  · rcases hj with rfl | rfl | ⟨x, hx, hj⟩
    · exact .inl (.inl rfl)
    · exact .inl (.inr (.inl em))
    · rw [ee] at hx
      rcases List.mem_append.1 hx with hx | hx
      · exact .inl (.inr (.inr ⟨x, hold x (.inl hx), hj⟩))
      · rcases List.mem_cons.1 hx with rfl | hx
        · rcases hj with rfl | hj
          · exact .inl (.inr (.inr ⟨e, hem, .inl h2⟩))
          · rcases ht j hj with h6 | h6
            · exact .inr h6
            · exact .inl (.inr (.inr ⟨e, hem, .inr h6⟩))
        · exact .inl (.inr (.inr ⟨x, hold x (.inr hx), hj⟩))

/-- One entry more. -/
theorem DiskAt.more {S S' : St} {i : Nat} {D D' : Dk} {e' : Ent} (h : DiskAt S i D) (k : Keeps (fun j => j = i ∨ j = D.m) S S')
    (hh : S'.cells i = some D'.cells) (hm : S'.hp D.m = some (.map (D.ents.map Ent.cell ++ [e'.cell]) (D.c + 1))) (em : D'.m = D.m) (ec : D'.c = D.c + 1) (ee : D'.ents = D.ents ++ [e']) (h1 : ∀ x ∈ D.ents, x.name ≠ e'.name) (h2 : S.n ≤ e'.f) (h3 : e'.born = D.c) (hE : EntAt S' e') (ht : ∀ j, e'.t = .at j → S.n ≤ j) (hw : D'.Wf) :
    DiskAt S' i D' ∧ (∀ j, ownD i D' j → ownD i D j ∨ S.n ≤ j) := by
  have hkeep : ∀ x ∈ D.ents, EntAt S' x := fun x hx => by
    refine (h.ents x hx).keep k (fun hj => ?_) fun j hj hoj => ?_
    · rcases hj with h' | h'
      · exact h.ne_f hx h'.symm
      · exact h.ne_mf hx h'.symm
    · rcases hoj with h' | h'
      · subst h'; exact tok_cells (h.ents x hx).tok (hp_cells h.head) (by intro x; cases x) hj
      · subst h'; exact tok_cells (h.ents x hx).tok h.map (by intro x; cases x) hj
  refine ⟨⟨hh, k.lt h.lt, by rw [em, ec, ee]; simpa using hm, by rw [em]; exact k.lt h.mlt, fun x hx => ?_, ?_, ?_, ?_, fun x hx => ?_, ?_, hw⟩, fun j hj => ?_⟩
  · rw [ee] at hx
    rcases List.mem_append.1 hx with hx | hx
    · exact hkeep x hx
    · simp at hx; subst hx; exact hE
  · rw [ee, List.map_append, List.nodup_append]
    refine ⟨h.names, by simp, fun x hx y hy => ?_⟩
    simp at hy; subst hy
    obtain ⟨z, hz, rfl⟩ := List.mem_map.1 hx
    exact h1 z hz
  · rw [ee, List.map_append, List.nodup_append]
    refine ⟨h.objs, by simp, fun x hx y hy => ?_⟩
    simp at hy; subst hy
    obtain ⟨z, hz, rfl⟩ := List.mem_map.1 hx
    have := (h.ents z hz).lt
    omega
  · rw [ee, List.map_append, List.nodup_append]
    refine ⟨h.born, by simp, fun x hx y hy => ?_⟩
    simp at hy; subst hy
    obtain ⟨z, hz, rfl⟩ := List.mem_map.1 hx
    have := h.clock z hz
    omega
  · rw [ec]
    rw [ee] at hx
    rcases List.mem_append.1 hx with hx | hx
    · have := h.clock x hx; omega
    · simp at hx; subst hx; omega
  · rw [ee, List.pairwise_append]
    refine ⟨h.toks, List.pairwise_singleton _ _, fun x hx y hy j hj hj' => ?_⟩
    simp at hy; subst hy
    have h4 := (h.ents x hx).tok
    rw [hj] at h4
    have := ht j hj'
    have := h4.1
    omega
  · rcases hj with rfl | rfl | ⟨x, hx, hj⟩
    · exact .inl (.inl rfl)
    · exact .inl (.inr (.inl em))
    · rw [ee] at hx
      rcases List.mem_append.1 hx with hx | hx
      · exact .inl (.inr (.inr ⟨x, hx, hj⟩))
      · simp at hx; subst hx
        rcases hj with rfl | hj
        · exact .inr h2
        · exact .inr (ht j hj)

def entPtr : Option Ent → V
  | some e => .ptr (some (e.f, 0))
  | none => .ptr none
theorem entPtr_some (e : Ent) : entPtr (some e) = .ptr (some (e.f, 0)) := (rfl)
theorem entPtr_none : entPtr none = .ptr none := (rfl)
/-- Bytes that can be read whatever turns of these. -/
structure BytesIn (S : St) (o : Nat → Prop) (v : V) (bs : List UInt8) : Prop where
  one : v.one = true
  len : aF (.len .sl (.c v)) fr00 St.empty = some (.int .i64 bs.length)
  elems : ∀ S', Keeps o S S' → v.elems S' 1 = some (bs.length, bs.map u8V)
theorem IsBytes.into {v : V} {bs : List UInt8} (h : IsBytes v bs) (S : St) (o : Nat → Prop) : BytesIn S o v bs := by
  obtain ⟨t, rfl, h'⟩ := id h
  exact ⟨rfl, rfl, fun S' _ => h.elems S'⟩

theorem sumLen_mem {l : List Ent} {e : Ent} (h : e ∈ l) : e.p.length ≤ sumLen l := by
  induction l with
  | nil => cases h
  | cons x l ih =>
    simp only [sumLen, List.map_cons, List.sum_cons] at ih ⊢
    rcases List.mem_cons.1 h with rfl | h
    · omega
    · have := ih h; omega
theorem sumLen_mid (a b : List Ent) (e : Ent) : sumLen (a ++ e :: b) = sumLen a + e.p.length + sumLen b := by
  simp [sumLen]; omega

theorem grow_runs {w0 : World} {S : St} {Q : AEnd → St → Prop} {i : Nat} {D : Dk} {s p : List UInt8} {v : V} {fresh : Bool} (h : DiskAt S i D) (hs : s.length ≤ 1000000000000000) (hp : BytesIn S (ownD i D) v p) (hpl : p.length ≤ 1000000000000000)
    (hQ : ∀ S' D', DiskAt S' i D' → D'.abs = (D.abs.grow s p fresh).2 → Keeps (ownD i D) S S' → (∀ j, ownD i D' j → ownD i D j ∨ S.n ≤ j) → Q (.ret (.int .i64 (D.abs.grow s p fresh).1)) S') :
    RSim Tryz.prog w0 n_disk_Disk_grow [.ptr (some (i, 0)), .str (mkS s), v, .bool fresh] S Q := by
  have h1 := h.head
  have hm := h.map
  have hL := hp.len
  simp only [aF, Arg.ev] at hL
  have stay : ∀ e : Int, D.abs.grow s p fresh = (e, D.abs) → Q (.ret (.int .i64 e)) S := fun e he => by
    rw [he] at hQ
    exact hQ S D h rfl (Keeps.refl _ _) fun j hj => .inl hj
  refine RSim.run mixed k_disk_Disk_grow ?_ (by simp)
  simp only [b_disk_Disk_grow, go_sem]
  refine wi_call ?_
  simp only [go_sem]
  refine look1_runs hs (fun hn => ?_) (fun hn => ?_)
  · simp only [go_sem]
    refine wc_ite (b := false) (by simp only [go_sem] <;> rfl) (fun h => by cases h) (fun _ => ?_)
    have main : ∀ (x : Option Ent), (∀ e, x = some e → ∃ a b, D.ents = a ++ e :: b ∧ e.name = s ∧ ∀ y ∈ a, y.name ≠ s) → (x = none → ∀ y ∈ D.ents, y.name ≠ s) →
        ∀ fr : Fr, fr 0 = .ptr (some (i, 0)) → fr 1 = .str (mkS s) → fr 2 = v → fr 3 = .bool fresh → fr 10 = entPtr x →
        wCode (RSim Tryz.prog w0) k_disk_Disk_grow_0 fr S (blkQ 0 (seqQ (RSim Tryz.prog w0) s_disk_Disk_grow_0 (resQ [.tmp 8] Q))) := by
      intro x hx1 hx2 fr f0 f1 f2 f3 f10
      have hfind : findF s D.abs.files = x.map Ent.file := by
        cases x with
        | some e =>
          obtain ⟨a, b, he, hsn, ha⟩ := hx1 e rfl
          simp only [Dk.abs, he, Option.map_some]; exact findF_some hsn ha
        | none => exact findF_none (hx2 rfl)
      have hroom : IntKind.i64.wrap (D.room - D.used) = D.room - D.used := by
        have h2 := h.wf.used; have h3 := h.wf.fits; have h4 := h.wf.room
        exact w64 (by omega) (by omega)
      simp only [k_disk_Disk_grow_0, go_sem, f0, h1, Dk.cells]
      refine wc_ite (b := D.off) (by simp only [go_sem]) (fun hc => ?_) (fun hc => ?_)
      · simp only [go_sem]
        exact stay 10 (by simp [DS.grow, hn, Dk.abs, hc])
      · have hoff : D.off = false := hc
        have tail : (fresh = true → x = none) → ∀ fr : Fr, fr 0 = .ptr (some (i, 0)) → fr 1 = .str (mkS s) → fr 2 = v → fr 10 = entPtr x →
            wCode (RSim Tryz.prog w0) (.seq (.reg [0, 1, 2, 3, 4, 5, 6, 7, 8, 9, 10, 11, 12] [.run ⟨(some 38), none, .f (.mv (.t 2))⟩,
    .run ⟨(some 39), none, .f (.len .sl (.t 38))⟩,
    .run ⟨(some 40), none, .f (.mv (.t 0))⟩,
    .run ⟨(some 41), none, .f (.nilCheck (.t 40))⟩,
    .run ⟨(some 42), none, .f (.fieldAddr 1 (.t 41))⟩,
    .run ⟨(some 43), none, .f (.load false 1 (.t 42))⟩,
    .run ⟨(some 44), none, .f (.mv (.t 0))⟩,
    .run ⟨(some 45), none, .f (.nilCheck (.t 44))⟩,
    .run ⟨(some 46), none, .f (.fieldAddr 2 (.t 45))⟩,
    .run ⟨(some 47), none, .f (.load false 1 (.t 46))⟩,
    .run ⟨(some 48), none, .f (.bin .sub (.t 43) (.t 47))⟩,
    .run ⟨(some 49), none, .f (.bin .gtr (.t 39) (.t 48))⟩,
    .run ⟨(some 37), none, .f (.mv (.t 49))⟩])
   (.ite (.t 37)
   (.seq (.reg [] [.run ⟨(some 8), none, .f (.mv (.c (.int .i64 11)))⟩])
   .ret)
   .skip)) fr S (blkQ 0 (seqQ (RSim Tryz.prog w0) s_disk_Disk_grow_0 (resQ [.tmp 8] Q))) := by
          intro hfx fr f0 f1 f2 f10
          simp only [go_sem, f0, f1, f2, f10, h1, Dk.cells, hL, hroom]
          have hnf : ¬ (fresh = true ∧ (findF s D.abs.files).isSome = true) := by
            rw [hfind]; rintro ⟨h5, h6⟩
            rw [hfx h5] at h6; cases h6
          refine wc_ite (b := decide ((p.length : Int) > D.room - D.used)) (by simp only [go_sem]) (fun hc => ?_) (fun hc => ?_)
          · simp only [go_sem]
            exact stay 11 (grow_full hn hoff hnf (of_decide_eq_true hc))
          · have hcf : ¬ (p.length : Int) > D.abs.room - D.abs.used := of_decide_eq_false hc
            rw [grow_done hn hoff hnf hcf, hfind] at hQ
            simp only [go_sem, s_disk_Disk_grow_0, f0, f1, f2, f10, entPtr_some, entPtr_none]
            refine wi_call ?_
            simp only [go_sem]
            refine begin_runs h hoff fun S1 d1 k1 => ?_
            simp only [go_sem]
            refine wc_ite (b := false) (by simp only [go_sem] <;> rfl) (fun h => by cases h) (fun _ => ?_)
            cases x with
            | none =>
              simp only [go_sem, f0, f1, f2, f10, entPtr_some, entPtr_none]
              refine wc_ite (b := true) (by simp only [go_sem] <;> rfl) (fun _ => ?_) (fun h => by cases h)
              have hno := hx2 rfl
              have hni : ¬ i = S1.n := by have := d1.lt; omega
              have hnm : ¬ D.begun.m = S1.n := by have := d1.mlt; omega
              have him : ¬ i = D.begun.m := d1.ne_m
              have hf := findE_none (s := s) D.begun.ents 0 hno
              simp only [go_sem, f0, f1, f2, f10, entPtr_some, entPtr_none, hni, d1.head, Dk.cells]
              refine wi_e ?_
              simp only [wE]
              simp only [go_sem, f0, f1, hni, hnm, d1.map, hf]
              generalize hS2 : (S1.add (.cells [.sl [] 0 1 .nil, .int .i64 0])).set D.begun.m (.map (D.begun.ents.map Ent.cell ++ [(.str (mkS s), .ptr (some (S1.n, 0)), D.begun.c)]) (D.begun.c + 1)) = S2
              have k2 : Keeps (fun j => j = D.begun.m) S1 S2 := hS2 ▸ ((Keeps.refl (fun j => j = D.begun.m) S1).add _).set (i := D.begun.m) (.inl (show D.begun.m = D.begun.m from rfl)) _
              have n2 : S2.n = S1.n + 1 := by rw [← hS2]; simp only [go_sem]
              have c2 : S2.cells S1.n = some [.sl [] 0 1 .nil, .int .i64 0] := by
                have hnm' : ¬ S1.n = D.begun.m := fun e => hnm e.symm
                rw [← hS2]; simp only [St.cells, St.set_hp, hnm', if_false, St.add_hp, if_true]
              have i2 : S2.cells i = some D.begun.cells := k2.cells d1.head d1.lt him
              have m2 : S2.hp D.begun.m = some (.map (D.begun.ents.map Ent.cell ++ [(.str (mkS s), .ptr (some (S1.n, 0)), D.begun.c)]) (D.begun.c + 1)) := by rw [← hS2]; simp only [St.set_hp, if_true]
              clear hS2
              have kS : Keeps (fun j => j = i ∨ j = D.m) S S2 := (k1.mono fun _ _ e => .inl e).trans k2 fun _ _ e => .inr e
              have kO : Keeps (ownD i D) S S2 := kS.mono fun j _ e => e.elim .inl fun e => .inr (.inl e)
              simp only [go_sem, f0, f1, f2, c2]
              refine wi_append (n := 0) (cs := []) (t := .nil) (m := p.length) (xs := p.map u8V) (by simp only [go_sem]) (by simp only [go_sem, f2]; exact hp.elems _ kO) (by simp) (by simp [roomOk]; have h2 := h.wf.used; have h3 := h.wf.fits; have h4 := h.wf.room; simp only [Dk.abs] at hcf; omega) trivial (fun _ => ⟨rfl, rfl⟩) fun t' S3 k3 ht3 hn3 hz => ?_
              rw [tokOwn_nil] at k3
              have c3 := k3.cells c2 (by omega) id
              have i3 := k3.cells i2 (k2.lt d1.lt) id
              have m3 := hp_keep m2 k3 (k2.lt d1.mlt) id
              have hni' : ¬ S1.n = i := fun e => hni e.symm
              have hw : IntKind.i64.wrap (D.begun.used + (p.length : Int)) = D.used + p.length := by
                have h2 := h.wf.used; have h3 := h.wf.fits; have h4 := h.wf.room
                exact w64 (by show -9223372036854775808 ≤ D.used + (p.length : Int); omega) (by show D.used + (p.length : Int) < _; omega)
              simp only [go_sem, f0, f2, c3, i3, hni, hni', Dk.cells, hL, hw]
              generalize hS5 : (S3.set S1.n (.cells [.sl (p.map u8V) p.length 1 t', .int .i64 0])).set i (.cells [.map (some D.begun.m), .int .i64 D.begun.room, .int .i64 (D.used + p.length), .int .i64 D.begun.ops, .int .i64 D.begun.arm, .bool D.begun.off]) = S5
              have k5 : Keeps (fun j => j = S1.n ∨ j = i) S3 S5 := hS5 ▸ ((Keeps.refl (fun j => j = S1.n ∨ j = i) S3).set (i := S1.n) (.inl (.inl rfl)) _).set (i := i) (.inl (.inr rfl)) _
              have c5 : S5.cells S1.n = some [.sl (p.map u8V) p.length 1 t', .int .i64 0] := by
                rw [← hS5]; simp only [cells_setc, hni', if_false, if_true]
              have i5 : S5.cells i = some [.map (some D.begun.m), .int .i64 D.begun.room, .int .i64 (D.used + p.length), .int .i64 D.begun.ops, .int .i64 D.begun.arm, .bool D.begun.off] := by
                rw [← hS5]; simp only [cells_setc, if_true]
              have m5 := hp_keep m3 k5 (k3.lt (k2.lt d1.mlt)) (fun e => e.elim hnm fun e => him e.symm)
              clear hS5
              have kA : Keeps (fun j => j = i ∨ j = D.m) S S5 := (kS.trans (k3.mono (o' := fun j => j = i ∨ j = D.m) fun _ _ e => e.elim) fun _ _ e => e).trans k5 fun j hj e => by
                rcases e with e | e
                · have := k1.n; omega
                · exact .inl e
              have hE : EntAt S5 ⟨s, p, 0, S1.n, D.c, t'⟩ := ⟨c5, k5.lt (k3.lt (show S1.n < S2.n by omega)), ht3.keep k5 fun j hj e => by
                rcases e with e | e
                · subst e; exact tok_cells ht3 (hp_cells c3) (by intro x; cases x) hj
                · subst e; exact tok_cells ht3 (hp_cells i3) (by intro x; cases x) hj, fun e => List.eq_nil_of_length_eq_zero (hz e).1⟩
              have hwf : ({ D.begun with c := D.c + 1, ents := D.ents ++ [⟨s, p, 0, S1.n, D.c, t'⟩], used := D.used + p.length } : Dk).Wf := by
                have h2 := h.wf.used; have h3 := h.wf.fits; have h4 := h.wf.room
                simp only [Dk.abs] at hcf
                refine ⟨?_, ?_, h4, fun e he => ?_, fun e he => ?_⟩
                · show D.used + (p.length : Int) = _
                  simp [sumLen]; simp [sumLen] at h2; omega
                · show D.used + (p.length : Int) ≤ D.room
                  omega
                · rcases List.mem_append.1 he with he | he
                  · exact h.wf.sure e he
                  · simp at he; subst he; simp
                · rcases List.mem_append.1 he with he | he
                  · exact h.wf.names e he
                  · simp at he; subst he; exact hn
              obtain ⟨dA, oA⟩ := h.more (e' := ⟨s, p, 0, S1.n, D.c, t'⟩) (D' := { D.begun with c := D.c + 1, ents := D.ents ++ [⟨s, p, 0, S1.n, D.c, t'⟩], used := D.used + p.length }) kA i5 m5 rfl rfl rfl hno k1.n rfl hE (fun j hj => by have := hn3 j hj; have := k1.n; omega) hwf
              have fin := hQ S5 _ dA (by
                simp only [Dk.abs, Dk.begun, DS.begun, Option.map_none, Option.getD_none, List.nil_append]
                rw [← putF_none (e' := ⟨s, p, 0, S1.n, D.c, t'⟩) rfl hno]; rfl) (kA.mono fun j _ e => e.elim .inl fun e => .inr (.inl e)) oA
              have hob : D.abs.begun.off = D.begun.off := rfl
              rw [hob] at fin
              refine wc_ite (b := D.begun.off) (by simp only [go_sem]) (fun hc => ?_) (fun hc => ?_)
              · simp only [go_sem]
                rw [if_pos hc] at fin
                exact fin
              · simp only [go_sem]
                rw [if_neg (by rw [hc]; simp)] at fin
                exact fin
            | some e =>
              obtain ⟨a, b, he, hsn, ha⟩ := hx1 e rfl
              have hem : e ∈ D.ents := by rw [he]; simp
              have hE1 := d1.ents e hem
              have hif : ¬ i = e.f := h.ne_f hem
              have hif' : ¬ e.f = i := fun e' => hif e'.symm
              simp only [go_sem, f0, f1, f2, f10, entPtr_some, entPtr_none]
              refine wc_ite (b := false) (by simp only [go_sem] <;> rfl) (fun h => by cases h) (fun _ => ?_)
              simp only [go_sem, f0, f1, f2, f10, entPtr_some, entPtr_none, hE1.cells]
              have h2 := h.wf.used; have h3 := h.wf.fits; have h4 := h.wf.room
              have hle := sumLen_mem hem
              have kO : Keeps (ownD i D) S S1 := k1.mono fun _ _ e => .inl e
              refine wi_append (n := e.p.length) (cs := e.p.map u8V) (t := e.t) (m := p.length) (xs := p.map u8V) (by simp only [go_sem]) (by simp only [go_sem, f2]; exact hp.elems _ kO) (by simp) (by simp [roomOk]; simp only [Dk.abs] at hcf; omega) hE1.tok (fun ht => by rw [hE1.nil ht]; exact ⟨rfl, rfl⟩) fun t' S3 k3 ht3 hn3 hz => ?_
              have c3 := k3.cells hE1.cells hE1.lt (fun hj => tok_cells hE1.tok (hp_cells hE1.cells) (by intro x; cases x) hj)
              have i3 := k3.cells d1.head d1.lt (fun hj => tok_cells hE1.tok (hp_cells d1.head) (by intro x; cases x) hj)
              have hw : IntKind.i64.wrap (D.begun.used + (p.length : Int)) = D.used + p.length := by
                exact w64 (by show -9223372036854775808 ≤ D.used + (p.length : Int); omega) (by show D.used + (p.length : Int) < _; omega)
              simp only [go_sem, f0, f2, c3, i3, hif, hif', Dk.cells, hL, hw, f10, entPtr_some]
              have hcat : e.p.map u8V ++ p.map u8V = (e.p ++ p).map u8V := (List.map_append ..).symm
              have hlen : e.p.length + p.length = (e.p ++ p).length := (List.length_append ..).symm
              rw [hcat, hlen]
              generalize hS5 : (S3.set e.f (.cells [.sl ((e.p ++ p).map u8V) (e.p ++ p).length 1 t', .int .i64 e.sure])).set i (.cells [.map (some D.begun.m), .int .i64 D.begun.room, .int .i64 (D.used + p.length), .int .i64 D.begun.ops, .int .i64 D.begun.arm, .bool D.begun.off]) = S5
              have k5 : Keeps (fun j => j = e.f ∨ j = i) S3 S5 := hS5 ▸ ((Keeps.refl (fun j => j = e.f ∨ j = i) S3).set (i := e.f) (.inl (.inl rfl)) _).set (i := i) (.inl (.inr rfl)) _
              have c5 : S5.cells e.f = some [.sl ((e.p ++ p).map u8V) (e.p ++ p).length 1 t', .int .i64 e.sure] := by
                rw [← hS5]; simp only [cells_setc, hif', if_false, if_true]
              have i5 : S5.cells i = some [.map (some D.begun.m), .int .i64 D.begun.room, .int .i64 (D.used + p.length), .int .i64 D.begun.ops, .int .i64 D.begun.arm, .bool D.begun.off] := by
                rw [← hS5]; simp only [cells_setc, if_true]
              clear hS5
              have kB : Keeps (fun j => j = i ∨ j = e.f ∨ e.t = .at j) S1 S5 := (k3.mono (o' := fun j => j = i ∨ j = e.f ∨ e.t = .at j) fun _ _ h => .inr (.inr h)).trans k5 fun j _ h => h.elim (fun h => .inr (.inl h)) .inl
              have kA : Keeps (fun j => j = i ∨ j = e.f ∨ e.t = .at j) S S5 := (k1.mono fun _ _ h => .inl h).trans kB fun _ _ h => h
              have hE : EntAt S5 { e with p := e.p ++ p, t := t' } := ⟨c5, k5.lt (k3.lt hE1.lt), ht3.keep k5 fun j hj e' => by
                rcases e' with e' | e'
                · subst e'; exact tok_cells ht3 (hp_cells c3) (by intro x; cases x) hj
                · subst e'; exact tok_cells ht3 (hp_cells i3) (by intro x; cases x) hj, fun e' => by
                  obtain ⟨z1, z2⟩ := hz e'
                  show e.p ++ p = []
                  rw [hE1.nil z2, List.eq_nil_of_length_eq_zero z1]; rfl⟩
              have hwf : ({ D.begun with ents := a ++ { e with p := e.p ++ p, t := t' } :: b, used := D.used + p.length } : Dk).Wf := by
                simp only [Dk.abs] at hcf
                refine ⟨?_, ?_, h4, fun x hx => ?_, fun x hx => ?_⟩
                · show D.used + (p.length : Int) = _
                  rw [he, sumLen_mid] at h2
                  show _ = ((sumLen (a ++ { e with p := e.p ++ p, t := t' } :: b) : Nat) : Int)
                  rw [sumLen_mid]
                  simp; omega
                · show D.used + (p.length : Int) ≤ D.room
                  omega
                · rcases List.mem_append.1 hx with hx | hx
                  · exact h.wf.sure x (by rw [he]; simp [hx])
                  · rcases List.mem_cons.1 hx with rfl | hx
                    · have := h.wf.sure e hem; simp; omega
                    · exact h.wf.sure x (by rw [he]; simp [hx])
                · rcases List.mem_append.1 hx with hx | hx
                  · exact h.wf.names x (by rw [he]; simp [hx])
                  · rcases List.mem_cons.1 hx with rfl | hx
                    · exact h.wf.names e hem
                    · exact h.wf.names x (by rw [he]; simp [hx])
              obtain ⟨dA, oA⟩ := h.repl (e' := { e with p := e.p ++ p, t := t' }) (D' := { D.begun with ents := a ++ { e with p := e.p ++ p, t := t' } :: b, used := D.used + p.length }) he kA (fun _ h => h) i5 rfl rfl rfl rfl rfl rfl hE (fun j hj => .inl (by have := hn3 j hj; have := k1.n; omega)) hwf
              have fin := hQ S5 _ dA (by
                simp only [Dk.abs, Dk.begun, DS.begun, Option.map_some, Option.getD_some]
                have := putF_some (s := s) (e := e) (e' := { e with p := e.p ++ p, t := t' }) (b := b) hsn hsn ha
                rw [← he] at this
                rw [← this]; rfl) (kA.mono fun j _ e' => by
                  rcases e' with e' | e' | e'
                  · exact .inl e'
                  · exact .inr (.inr ⟨e, hem, .inl e'⟩)
                  · exact .inr (.inr ⟨e, hem, .inr e'⟩)) oA
              have hob : D.abs.begun.off = D.begun.off := rfl
              rw [hob] at fin
              refine wc_ite (b := D.begun.off) (by simp only [go_sem]) (fun hc => ?_) (fun hc => ?_)
              · simp only [go_sem]
                rw [if_pos hc] at fin
                exact fin
              · simp only [go_sem]
                rw [if_neg (by rw [hc]; simp)] at fin
                exact fin
        have hx : (fresh = true ∧ ∃ e, x = some e) ∨ (fresh = true → x = none) := by
          cases x with
          | none => exact .inr fun _ => rfl
          | some e => cases fresh with
            | true => exact .inl ⟨rfl, e, rfl⟩
            | false => exact .inr fun h => by cases h
        rcases hx with ⟨hfr, e, rfl⟩ | hx
        · subst hfr
          simp only [go_sem, f0, f1, f2, f3, f10, entPtr_some, entPtr_none]
          refine wc_ite (b := true) (by simp only [go_sem] <;> rfl) (fun _ => ?_) (fun h => by cases h)
          simp only [go_sem]
          exact stay 9 (grow_exists hn hoff ⟨rfl, by rw [hfind]; rfl⟩)
        · cases fresh with
          | false =>
            simp only [go_sem, f0, f1, f2, f3, f10, entPtr_some, entPtr_none]
            refine wc_ite (b := false) (by simp only [go_sem] <;> rfl) (fun h => by cases h) (fun _ => ?_)
            exact tail hx _ (by simp only [go_sem, f0]) (by simp only [go_sem, f1]) (by simp only [go_sem, f2]) (by simp only [go_sem, f10])
          | true =>
            have hx' := hx rfl
            subst hx'
            simp only [go_sem, f0, f1, f2, f3, f10, entPtr_some, entPtr_none]
            refine wc_ite (b := false) (by simp only [go_sem] <;> rfl) (fun h => by cases h) (fun _ => ?_)
            exact tail hx _ (by simp only [go_sem, f0]) (by simp only [go_sem, f1]) (by simp only [go_sem, f2]) (by simp only [go_sem, f10])
    rcases find_cases s D.ents with ⟨a, e, b, he, hsn, ha⟩ | hno
    · have hf := findE_some (b := b) hsn a 0 ha
      rw [← he] at hf
      simp only [go_sem, h1, hm, hf, Dk.cells]
      refine main (some e) (fun e' h' => by injection h' with h'; subst h'; exact ⟨a, b, he, hsn, ha⟩) (fun h' => by cases h') _ ?_ ?_ ?_ ?_ ?_ <;> simp only [go_sem, entPtr_some, entPtr_none]
    · have hf := findE_none D.ents 0 hno
      simp only [go_sem, h1, hm, hf, Dk.cells]
      refine main none (fun e' h' => by cases h') (fun _ => hno) _ ?_ ?_ ?_ ?_ ?_ <;> simp only [go_sem, entPtr_some, entPtr_none]
  · simp only [go_sem]
    refine wc_ite (b := true) (by simp only [go_sem] <;> rfl) (fun _ => ?_) (fun h => by cases h)
    simp only [go_sem]
    exact stay 1 (by simp [DS.grow, hn])

theorem append_runs {w0 : World} {S : St} {Q : AEnd → St → Prop} {i : Nat} {D : Dk} {s p : List UInt8} {v : V} (h : DiskAt S i D) (hs : s.length ≤ 1000000000000000) (hp : BytesIn S (ownD i D) v p) (hpl : p.length ≤ 1000000000000000)
    (hQ : ∀ S' D', DiskAt S' i D' → D'.abs = (D.abs.grow s p false).2 → Keeps (ownD i D) S S' → (∀ j, ownD i D' j → ownD i D j ∨ S.n ≤ j) → Q (.ret (.int .i64 (D.abs.grow s p false).1)) S') :
    RSim Tryz.prog w0 n_disk_Disk_Append [.ptr (some (i, 0)), .str (mkS s), v] S Q := by
  refine RSim.run mixed k_disk_Disk_Append ?_ (by simp)
  simp only [b_disk_Disk_Append, go_sem]
  refine wi_call ?_
  simp only [go_sem]
  refine grow_runs h hs hp hpl fun S' D' h1 h2 h3 h4 => ?_
  simp only [go_sem]
  exact hQ S' D' h1 h2 h3 h4
theorem put_runs {w0 : World} {S : St} {Q : AEnd → St → Prop} {i : Nat} {D : Dk} {s p : List UInt8} {v : V} (h : DiskAt S i D) (hs : s.length ≤ 1000000000000000) (hp : BytesIn S (ownD i D) v p) (hpl : p.length ≤ 1000000000000000)
    (hQ : ∀ S' D', DiskAt S' i D' → D'.abs = (D.abs.grow s p true).2 → Keeps (ownD i D) S S' → (∀ j, ownD i D' j → ownD i D j ∨ S.n ≤ j) → Q (.ret (.int .i64 (D.abs.grow s p true).1)) S') :
    RSim Tryz.prog w0 n_disk_Disk_Put [.ptr (some (i, 0)), .str (mkS s), v] S Q := by
  refine RSim.run mixed k_disk_Disk_Put ?_ (by simp)
  simp only [b_disk_Disk_Put, go_sem]
  refine wi_call ?_
  simp only [go_sem]
  refine grow_runs h hs hp hpl fun S' D' h1 h2 h3 h4 => ?_
  simp only [go_sem]
  exact hQ S' D' h1 h2 h3 h4
theorem grow_nil {w0 : World} {S : St} {Q : AEnd → St → Prop} {s : List UInt8} {v : V} {fresh : Bool} (hQ : Q (.ret (.int .i64 8)) S) : RSim Tryz.prog w0 n_disk_Disk_grow [.ptr none, .str (mkS s), v, .bool fresh] S Q := by
  refine RSim.run mixed k_disk_Disk_grow ?_ (by simp)
  simp only [b_disk_Disk_grow, go_sem]
  refine wi_call ?_
  simp only [go_sem]
  refine look_nil ?_
  simp only [go_sem]
  refine wc_ite (b := true) (by simp only [go_sem] <;> rfl) (fun _ => ?_) (fun h => by cases h)
  simp only [go_sem]
  exact hQ
theorem append_nil {w0 : World} {S : St} {Q : AEnd → St → Prop} {s : List UInt8} {v : V} (hQ : Q (.ret (.int .i64 8)) S) : RSim Tryz.prog w0 n_disk_Disk_Append [.ptr none, .str (mkS s), v] S Q := by
  refine RSim.run mixed k_disk_Disk_Append ?_ (by simp)
  simp only [b_disk_Disk_Append, go_sem]
  refine wi_call ?_
  simp only [go_sem]
  refine grow_nil ?_
  simp only [go_sem]
  exact hQ
theorem put_nil {w0 : World} {S : St} {Q : AEnd → St → Prop} {s : List UInt8} {v : V} (hQ : Q (.ret (.int .i64 8)) S) : RSim Tryz.prog w0 n_disk_Disk_Put [.ptr none, .str (mkS s), v] S Q := by
  refine RSim.run mixed k_disk_Disk_Put ?_ (by simp)
  simp only [b_disk_Disk_Put, go_sem]
  refine wi_call ?_
  simp only [go_sem]
  refine grow_nil ?_
  simp only [go_sem]
  exact hQ
end Go.VM
