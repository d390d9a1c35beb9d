/-
  A disk that has a log's file, and the one that is being made: plain.
  A log on a disk that has power and room: each call.
  The laws' awake. NEWPP
-/
import Derived.Test.YtegaflmefmlpgaaGreatDoorWPlain
set_option maxRecDepth 20000
set_option linter.unusedVariables false
set_option linter.unusedSimpArgs false
namespace Go.VM
open Go Go.RowKit Go.Proofs

theorem findF_name {s : List UInt8} {x : File} : ∀ {l : List File}, findF s l = some x → x.name = s
  | y :: r, h => by
    unfold findF at h
    split at h
    · injection h with h; subst h; assumption
    · exact findF_name h
theorem findF_mem {s : List UInt8} {x : File} : ∀ {l : List File}, findF s l = some x → x ∈ l
  | y :: r, h => by
    unfold findF at h
    split at h
    · injection h with h; subst h; simp
    · exact List.mem_cons_of_mem _ (findF_mem h)
theorem findF_no {s : List UInt8} : ∀ {l : List File}, (∀ x ∈ l, x.name ≠ s) → findF s l = none
  | [], _ => rfl
  | y :: r, h => by
    unfold findF
    rw [if_neg (h y (by simp))]
    exact findF_no fun x hx => h x (by simp [hx])
theorem findF_put (x : File) (m : List UInt8) : ∀ l : List File, findF m (putF x l) = if x.name = m then some x else findF m l
  | [] => rfl
  | y :: r => by
    unfold putF
    by_cases h : y.name = x.name
    · rw [if_pos h]
      by_cases h1 : x.name = m
      · rw [if_pos h1]; unfold findF; rw [if_pos h1]
      · rw [if_neg h1]; unfold findF; rw [if_neg h1, if_neg (by rw [h]; exact h1)]
    · rw [if_neg h]
      unfold findF
      by_cases h2 : y.name = m
      · rw [if_pos h2, if_neg (fun h1 => h (h2.trans h1.symm)), if_pos h2]
      · rw [if_neg h2, findF_put x m r]
        by_cases h1 : x.name = m
        · rw [if_pos h1, if_pos h1]
        · rw [if_neg h1, if_neg h1, if_neg h2]
theorem findF_del {s : List UInt8} (m : List UInt8) : ∀ {l : List File}, (l.map (·.name)).Nodup → findF m (delF s l) = if m = s then none else findF m l
  | [], _ => by simp [delF, findF]
  | y :: r, h => by
    rw [List.map_cons, List.nodup_cons] at h
    unfold delF
    by_cases h1 : y.name = s
    · rw [if_pos h1]
      by_cases h2 : m = s
      · rw [if_pos h2]
        exact findF_no fun x hx e => h.1 (List.mem_map.2 ⟨x, hx, by rw [e, h2, h1]⟩)
      · rw [if_neg h2]; conv => rhs; unfold findF
        rw [if_neg (fun e => h2 (by rw [← e, h1]))]
    · rw [if_neg h1]
      conv => lhs; unfold findF
      conv => rhs; unfold findF
      by_cases h2 : y.name = m
      · rw [if_pos h2, if_pos h2, if_neg (fun e => h1 (by rw [h2, e]))]
      · rw [if_neg h2, if_neg h2, findF_del m h.2]
theorem mem_put {x y : File} : ∀ {l : List File}, y ∈ putF x l → y = x ∨ y ∈ l
  | [], h => by simp [putF] at h; exact .inl h
  | z :: r, h => by
    unfold putF at h
    split at h
    · rcases List.mem_cons.1 h with h | h
      · exact .inl h
      · exact .inr (List.mem_cons_of_mem _ h)
    · rcases List.mem_cons.1 h with h | h
      · exact .inr (by simp [h])
      · exact (mem_put h).imp id fun h => List.mem_cons_of_mem _ h
theorem mem_del {s : List UInt8} {y : File} : ∀ {l : List File}, y ∈ delF s l → y ∈ l
  | z :: r, h => by
    unfold delF at h
    split at h
    · exact List.mem_cons_of_mem _ h
    · rcases List.mem_cons.1 h with h | h
      · simp [h]
      · exact List.mem_cons_of_mem _ (mem_del h)
def sumF (l : List File) : Nat := (l.map fun x => x.p.length).sum
def con (D : DS) (s : List UInt8) : List UInt8 × Nat := match findF s D.files with | some x => (x.p, x.sure) | none => ([], 0)
theorem newN_ne (s : List UInt8) : newN s ≠ s := fun h => by have := congrArg List.length h; simp [newN] at this
theorem sum_two {a b : List UInt8} (hab : a ≠ b) : ∀ {l : List File}, (l.map (·.name)).Nodup → (∀ x ∈ l, x.name = a ∨ x.name = b) →
    sumF l = (match findF a l with | some x => x.p.length | none => 0) + (match findF b l with | some x => x.p.length | none => 0)
  | [], _, _ => rfl
  | y :: r, hn, ho => by
    rw [List.map_cons, List.nodup_cons] at hn
    have ih := sum_two hab hn.2 fun x hx => ho x (by simp [hx])
    have es : sumF (y :: r) = y.p.length + sumF r := by simp [sumF]
    rw [es, ih]
    have hno : findF y.name r = none := findF_no fun x hx e => hn.1 (List.mem_map.2 ⟨x, hx, e⟩)
    rcases ho y (by simp) with h | h
    · have h2 : ¬ y.name = b := fun e => hab (h.symm.trans e)
      rw [h] at hno
      simp only [findF, h, if_true, if_neg hab, hno]; omega
    · have h2 : ¬ b = a := fun e => hab e.symm
      rw [h] at hno
      simp only [findF, h, if_true, if_neg h2, hno]; omega

/-- What is always true of a disk. -/
structure DS.Good (D : DS) : Prop where
  nd : (D.files.map (·.name)).Nodup
  used : D.used = sumF D.files
  room : D.room ≤ 67108864
  sure : ∀ x ∈ D.files, x.sure ≤ x.p.length
theorem DiskAt.good {S : St} {i : Nat} {D : Dk} (h : DiskAt S i D) : D.abs.Good := by
  refine ⟨by simpa [Dk.abs, List.map_map, Function.comp_def, Ent.file] using h.names, ?_, h.wf.room, fun x hx => ?_⟩
  · have := h.wf.used
    simp only [Dk.abs, this, sumF, sumLen, List.map_map, Function.comp_def, Ent.file]
  · obtain ⟨e, he, rfl⟩ := List.mem_map.1 hx
    exact h.wf.sure e he
/-- The file has these bytes, so many of them durable; there's no file but this and the one that is being made. -/
structure WD (D : DS) (s p : List UInt8) (q : Nat) : Prop where
  nd : (D.files.map (·.name)).Nodup
  only : ∀ x ∈ D.files, x.name = s ∨ x.name = newN s
  con : con D s = (p, q)
def DS.clean (D : DS) (s : List UInt8) : Prop := findF (newN s) D.files = none
theorem nd_put {x : File} : ∀ {l : List File}, (l.map (·.name)).Nodup → ((putF x l).map (·.name)).Nodup
  | [], _ => by simp [putF]
  | y :: r, h => by
    rw [List.map_cons, List.nodup_cons] at h
    unfold putF
    by_cases h1 : y.name = x.name
    · rw [if_pos h1, List.map_cons, List.nodup_cons, ← h1]; exact h
    · rw [if_neg h1, List.map_cons, List.nodup_cons]
      refine ⟨fun hm => ?_, nd_put h.2⟩
      obtain ⟨z, hz, e⟩ := List.mem_map.1 hm
      rcases mem_put hz with rfl | hz
      · exact h1 e.symm
      · exact h.1 (List.mem_map.2 ⟨z, hz, e⟩)
theorem nd_del {s : List UInt8} : ∀ {l : List File}, (l.map (·.name)).Nodup → ((delF s l).map (·.name)).Nodup
  | [], _ => by simp [delF]
  | y :: r, h => by
    rw [List.map_cons, List.nodup_cons] at h
    unfold delF
    by_cases h1 : y.name = s
    · rw [if_pos h1]; exact h.2
    · rw [if_neg h1, List.map_cons, List.nodup_cons]
      refine ⟨fun hm => ?_, nd_del h.2⟩
      obtain ⟨z, hz, e⟩ := List.mem_map.1 hm
      exact h.1 (List.mem_map.2 ⟨z, mem_del hz, e⟩)
theorem WD.used {D : DS} {s p : List UInt8} {q : Nat} (h : WD D s p q) (g : D.Good) (hc : D.clean s) : D.used = (p.length : Int) := by
  rw [g.used, sum_two (newN_ne s).symm g.nd h.only, hc]
  have := h.con
  unfold Go.VM.con at this
  split at this <;> rename_i hx
  · injection this with h1 h2
    simp [h1]
  · injection this with h1 h2
    simp [← h1]
theorem WD.bytes {D : DS} {s p : List UInt8} {q : Nat} (h : WD D s p q) (hn : nameOk s = true) (ho : D.off = false) : D.bytes s = p ∧ (D.readE s = 0 ∨ D.readE s = 8) ∧ D.sureOf s = q := by
  have := h.con
  unfold Go.VM.con at this
  unfold DS.bytes DS.readE DS.sureOf
  rw [hn, ho]
  split at this <;> rename_i hx <;> injection this with h1 h2 <;> subst h1 <;> subst h2 <;> simp [hx]
/-- A file is laid in. -/
theorem WD.put {D D' : DS} {s p p' : List UInt8} {q q' : Nat} (h : WD D s p q) (hf : D'.files = putF ⟨s, p', q'⟩ D.files) : WD D' s p' q' ∧ (D.clean s → D'.clean s) := by
  refine ⟨⟨by rw [hf]; exact nd_put h.nd, fun x hx => ?_, ?_⟩, fun hc => ?_⟩
  · rw [hf] at hx
    rcases mem_put hx with rfl | hx
    · exact .inl rfl
    · exact h.only x hx
  · unfold Go.VM.con; rw [hf, findF_put]; simp
  · unfold DS.clean; rw [hf, findF_put, if_neg (newN_ne s).symm]; exact hc
theorem WD.putN {D D' : DS} {s p p' : List UInt8} {q q' : Nat} (h : WD D s p q) (hf : D'.files = putF ⟨newN s, p', q'⟩ D.files) : WD D' s p q ∧ findF (newN s) D'.files = some ⟨newN s, p', q'⟩ := by
  refine ⟨⟨by rw [hf]; exact nd_put h.nd, fun x hx => ?_, ?_⟩, by rw [hf, findF_put, if_pos rfl]⟩
  · rw [hf] at hx
    rcases mem_put hx with rfl | hx
    · exact .inr rfl
    · exact h.only x hx
  · have := h.con
    unfold Go.VM.con at this ⊢; rw [hf, findF_put, if_neg (newN_ne s)]; exact this
theorem WD.same {D D' : DS} {s p : List UInt8} {q : Nat} (h : WD D s p q) (hf : D'.files = D.files) : WD D' s p q ∧ (D.clean s → D'.clean s) := by
  refine ⟨⟨by rw [hf]; exact h.nd, by rw [hf]; exact h.only, ?_⟩, fun hc => by unfold DS.clean; rw [hf]; exact hc⟩
  have := h.con
  unfold Go.VM.con at this ⊢; rw [hf]; exact this

/-! ### Each call's work -/
theorem begun_files (D : DS) : D.begun.files = D.files := rfl
theorem begun_room (D : DS) : D.begun.room = D.room := rfl
theorem begun_calm {D : DS} (ha : D.arm = 0) : D.begun.off = false ∧ D.begun.arm = 0 := by
  unfold DS.begun; simp [ha]
theorem grow_eff {D : DS} {s p f : List UInt8} {q : Nat} (h : WD D s p q) (g : D.Good) (hc : D.clean s) (hn : nameOk s = true) (ho : D.off = false) (hr : (p.length : Int) + f.length ≤ D.room) :
    (D.grow s f false).1 = (if D.begun.off = true then 10 else 0) ∧ WD (D.grow s f false).2 s (p ++ f) q ∧ (D.grow s f false).2.clean s ∧ (D.grow s f false).2.off = D.begun.off ∧ (D.grow s f false).2.arm = D.begun.arm ∧ (D.grow s f false).2.room = D.room := by
  have hu := h.used g hc
  rw [grow_done hn ho (by simp) (by omega)]
  have hx : ({ ((findF s D.files).getD ⟨s, [], 0⟩) with p := ((findF s D.files).getD ⟨s, [], 0⟩).p ++ f } : File) = ⟨s, p ++ f, q⟩ := by
    have := h.con
    unfold Go.VM.con at this
    split at this <;> rename_i hx <;> injection this with h1 h2
    · rw [hx, Option.getD_some, h1]; simp only [h2, findF_name hx]
    · rw [hx, Option.getD_none, ← h1, ← h2]
  obtain ⟨h1, h2⟩ := h.put (D' := { D.begun with files := putF { ((findF s D.files).getD ⟨s, [], 0⟩) with p := ((findF s D.files).getD ⟨s, [], 0⟩).p ++ f } D.files, used := D.used + f.length }) (p' := p ++ f) (q' := q) (by rw [hx])
  exact ⟨rfl, h1, h2 hc, rfl, rfl, rfl⟩
theorem sync_eff {D : DS} {s p : List UInt8} {q : Nat} (h : WD D s p q) (hn : nameOk s = true) (ho : D.off = false) :
    ((D.sync s).1 = 8 ∧ (D.sync s).2 = D ∧ p = [] ∧ q = 0) ∨
    (D.begun.off = true ∧ (D.sync s).1 = 10 ∧ WD (D.sync s).2 s p q ∧ (D.clean s → (D.sync s).2.clean s) ∧ (D.sync s).2.off = true ∧ (D.sync s).2.room = D.room) ∨
    (D.begun.off = false ∧ (D.sync s).1 = 0 ∧ WD (D.sync s).2 s p p.length ∧ (D.clean s → (D.sync s).2.clean s) ∧ (D.sync s).2.off = false ∧ (D.sync s).2.arm = D.begun.arm ∧ (D.sync s).2.room = D.room) := by
  have hcon := h.con
  unfold Go.VM.con at hcon
  split at hcon <;> rename_i hx <;> injection hcon with h1 h2
  · rename_i x
    right
    cases hb : D.begun.off
    · right
      have e : D.sync s = (0, { D.begun with files := putF { x with sure := x.p.length } D.begun.files }) := by
        unfold DS.sync DS.change
        rw [if_neg (by simp [hn]), if_neg (by simp [ho]), hx]
        simp only [hb, Bool.false_eq_true, if_false]
      have hxe : ({ x with sure := x.p.length } : File) = ⟨s, p, p.length⟩ := by rw [← h1, findF_name hx]
      rw [e, begun_files, hxe]
      obtain ⟨k1, k2⟩ := h.put (D' := { D.begun with files := putF ⟨s, p, p.length⟩ D.files }) (p' := p) (q' := p.length) rfl
      exact ⟨rfl, rfl, k1, k2, hb, rfl, rfl⟩
    · left
      have e : D.sync s = (10, D.begun) := by
        unfold DS.sync DS.change
        rw [if_neg (by simp [hn]), if_neg (by simp [ho]), hx]
        simp only [hb, if_true]
      rw [e]
      obtain ⟨k1, k2⟩ := h.same (D' := D.begun) rfl
      exact ⟨rfl, rfl, k1, k2, hb, rfl⟩
  · left
    have e : D.sync s = (8, D) := by
      unfold DS.sync DS.change
      rw [if_neg (by simp [hn]), if_neg (by simp [ho]), hx]
    rw [e]; exact ⟨rfl, rfl, h1.symm, h2.symm⟩
theorem opened_eff {D : DS} {s p : List UInt8} {q : Nat} (h : WD D s p q) (hn : nameOk (newN s) = true) (ho : D.off = false) (ha : D.arm = 0) :
    ((D.remove (newN s)).1 = 0 ∨ (D.remove (newN s)).1 = 8) ∧ WD (D.opened s) s p q ∧ (D.opened s).clean s ∧ (D.opened s).off = false ∧ (D.opened s).arm = 0 ∧ (D.opened s).room = D.room := by
  obtain ⟨b1, b2⟩ := begun_calm ha
  cases hx : findF (newN s) D.files with
  | none =>
    have e : D.remove (newN s) = (8, D) := by
      unfold DS.remove DS.change
      rw [if_neg (by simp [hn]), if_neg (by simp [ho]), hx]
    unfold DS.opened
    rw [e]
    exact ⟨.inr rfl, h, hx, ho, ha, rfl⟩
  | some x =>
    have e : D.remove (newN s) = (0, { D.begun with files := delF (newN s) D.begun.files, used := D.begun.used - x.p.length }) := by
      unfold DS.remove DS.change
      rw [if_neg (by simp [hn]), if_neg (by simp [ho]), hx]
      simp only [b1, Bool.false_eq_true, if_false]
    unfold DS.opened
    rw [e]
    refine ⟨.inl rfl, ⟨nd_del h.nd, fun y hy => h.only y (mem_del hy), ?_⟩, ?_, b1, b2, rfl⟩
    · have := h.con
      unfold Go.VM.con at this ⊢
      rw [show (D.begun.files) = D.files from rfl, findF_del s h.nd, if_neg (newN_ne s).symm]
      exact this
    · unfold DS.clean
      rw [show (D.begun.files) = D.files from rfl, findF_del _ h.nd, if_pos rfl]

/-- Behind a write: it is done, or the power went off and the file is as it was. -/
theorem write_eff {D : DS} {s p : List UInt8} {q : Nat} {L : List (List UInt8)} (h : WD D s p q) (g : D.Good) (hc : D.clean s) (hn : nameOk s = true) (hn' : nameOk (newN s) = true) (ho : D.off = false) (hL : shortL L) (hr : (p.length : Int) + (fileB L).length ≤ D.room) :
    ((D.writeL s L).1 = 0 ∧ WD (D.writeL s L).2 s (fileB L) (fileB L).length ∧ (D.writeL s L).2.clean s ∧ (D.writeL s L).2.off = false ∧ (D.arm = 0 → (D.writeL s L).2.arm = 0) ∧ (D.writeL s L).2.room = D.room ∧ (∃ x, (D.writeL s L).2.files.map (·.name) = x ∧ s ∈ x)) ∨
    ((D.writeL s L).1 = 10 ∧ D.arm ≠ 0 ∧ WD (D.writeL s L).2 s p q ∧ (D.writeL s L).2.off = true ∧ (D.writeL s L).2.room = D.room) := by
  have hu := h.used g hc
  have e0 : D.writeL s L = DS.write1 (D.grow (newN s) (fileB L) true) s := if_neg (by rw [longL_not hL]; decide)
  have calm : ∀ E : DS, E.arm = 0 → E.begun.off = false ∧ E.begun.arm = 0 := fun E => begun_calm
  have hgrow : D.grow (newN s) (fileB L) true = (if D.begun.off = true then 10 else 0, { D.begun with files := putF ⟨newN s, fileB L, 0⟩ D.files, used := D.used + (fileB L).length }) := by
    have hcn : findF (newN s) D.files = none := hc
    rw [grow_done hn' ho (by rw [hcn]; simp) (by omega), hcn]
    rfl
  rw [e0, hgrow]
  generalize hD1 : ({ D.begun with files := putF ⟨newN s, fileB L, 0⟩ D.files, used := D.used + (fileB L).length } : DS) = D1
  have f1 : D1.files = putF ⟨newN s, fileB L, 0⟩ D.files := by rw [← hD1]
  have o1 : D1.off = D.begun.off := by rw [← hD1]
  have a1 : D1.arm = D.begun.arm := by rw [← hD1]
  have r1 : D1.room = D.room := by rw [← hD1]; rfl
  obtain ⟨w1, n1⟩ := h.putN f1
  clear hD1
  by_cases hb : D.begun.off = true
  · right
    rw [if_pos hb]
    have e : DS.write1 (10, D1) s = (10, D1) := by simp [DS.write1, DS.write2, DS.write3]
    rw [e]
    exact ⟨rfl, fun ha => (by rw [(calm D ha).1] at hb; cases hb), w1, o1.trans hb, r1⟩
  rw [if_neg hb]
  have hb : D.begun.off = false := by simpa using hb
  have hS : D1.sync (newN s) = if D1.begun.off = true then (10, D1.begun) else (0, { D1.begun with files := putF ⟨newN s, fileB L, (fileB L).length⟩ D1.files }) := by
    unfold DS.sync DS.change
    rw [if_neg (by simp [hn']), if_neg (by rw [o1, hb]; simp), n1]
    rfl
  by_cases hb1 : D1.begun.off = true
  · right
    rw [if_pos hb1] at hS
    have e : DS.write1 (0, D1) s = (10, D1.begun) := by simp [DS.write1, hS, DS.write2, DS.write3]
    rw [e]
    obtain ⟨w2, _⟩ := w1.same (D' := D1.begun) rfl
    exact ⟨rfl, fun ha => (by rw [(calm D1 (a1.trans (calm D ha).2)).1] at hb1; cases hb1), w2, hb1, r1⟩
  rw [if_neg hb1] at hS
  have hb1 : D1.begun.off = false := by simpa using hb1
  generalize hD2 : ({ D1.begun with files := putF ⟨newN s, fileB L, (fileB L).length⟩ D1.files } : DS) = D2 at hS
  have f2 : D2.files = putF ⟨newN s, fileB L, (fileB L).length⟩ D1.files := by rw [← hD2]
  have o2 : D2.off = D1.begun.off := by rw [← hD2]
  have a2 : D2.arm = D1.begun.arm := by rw [← hD2]
  have r2 : D2.room = D1.room := by rw [← hD2]; rfl
  obtain ⟨w2, n2⟩ := w1.putN f2
  clear hD2
  have hR : D2.rename (newN s) s = if D2.begun.off = true then (10, D2.begun) else (0, renF (newN s) s D2.begun ⟨newN s, fileB L, (fileB L).length⟩) := by
    unfold DS.rename
    rw [if_neg (by simp [hn, hn']), if_neg (newN_ne s), if_neg (by
      rintro ⟨_, x, hx, hlt⟩
      rw [n2] at hx; injection hx with hx
      subst hx
      exact absurd hlt (by simp))]
    unfold DS.change
    rw [if_neg (by simp [hn']), if_neg (by rw [o2, hb1]; simp), n2]
  by_cases hb2 : D2.begun.off = true
  · right
    rw [if_pos hb2] at hR
    have e : DS.write1 (0, D1) s = (10, D2.begun) := by simp [DS.write1, hS, DS.write2, hR, DS.write3]
    rw [e]
    obtain ⟨w3, _⟩ := w2.same (D' := D2.begun) rfl
    exact ⟨rfl, fun ha => (by rw [(calm D2 (a2.trans (calm D1 (a1.trans (calm D ha).2)).2)).1] at hb2; cases hb2), w3, hb2, r2.trans r1⟩
  · left
    rw [if_neg hb2] at hR
    have hb2 : D2.begun.off = false := by simpa using hb2
    have e : DS.write1 (0, D1) s = (0, renF (newN s) s D2.begun ⟨newN s, fileB L, (fileB L).length⟩) := by simp [DS.write1, hS, DS.write2, hR, DS.write3]
    rw [e]
    have hfl : (renF (newN s) s D2.begun ⟨newN s, fileB L, (fileB L).length⟩).files = putF ⟨s, fileB L, (fileB L).length⟩ (delF (newN s) D2.files) := rfl
    have hnd := nd_del (s := newN s) w2.nd
    refine ⟨rfl, ⟨by rw [hfl]; exact nd_put hnd, fun x hx => ?_, ?_⟩, ?_, hb2, fun ha => (calm D2 (a2.trans (calm D1 (a1.trans (calm D ha).2)).2)).2, r2.trans r1, _, rfl, ?_⟩
    · rw [hfl] at hx
      rcases mem_put hx with rfl | hx
      · exact .inl rfl
      · exact w2.only x (mem_del hx)
    · unfold Go.VM.con; rw [hfl, findF_put]; simp
    · unfold DS.clean; rw [hfl, findF_put, if_neg (newN_ne s).symm, findF_del _ w2.nd, if_pos rfl]
    · have : findF s (renF (newN s) s D2.begun ⟨newN s, fileB L, (fileB L).length⟩).files = some ⟨s, fileB L, (fileB L).length⟩ := by rw [hfl, findF_put, if_pos rfl]
      exact List.mem_map.2 ⟨_, findF_mem this, rfl⟩

/-! ### Restart -/
theorem stepR_find {keep : List Int} {D : DS} {j : Nat} {s : List UInt8} (m : List UInt8) : findF m (stepR keep D j s).files = if m = s then (findF m D.files).map (cutF keep j) else findF m D.files := by
  unfold stepR
  split
  · rename_i x hx
    rw [findF_put]
    have hn : (cutF keep j x).name = s := (show (cutF keep j x).name = x.name from rfl).trans (findF_name hx)
    rw [hn]
    by_cases h : m = s
    · rw [if_pos h.symm, if_pos h, h, hx]; rfl
    · rw [if_neg (fun e => h e.symm), if_neg h]
  · rename_i hx
    by_cases h : m = s
    · rw [if_pos h, h, hx]; rfl
    · rw [if_neg h]
theorem stepR_names {keep : List Int} {D : DS} {j : Nat} {s : List UInt8} (hn : (D.files.map (·.name)).Nodup) : ((stepR keep D j s).files.map (·.name)).Nodup ∧ (∀ y ∈ (stepR keep D j s).files, ∃ z ∈ D.files, z.name = y.name) := by
  unfold stepR
  split
  · rename_i x hx
    refine ⟨nd_put hn, fun y hy => ?_⟩
    rcases mem_put hy with rfl | hy
    · exact ⟨x, findF_mem hx, rfl⟩
    · exact ⟨y, hy, rfl⟩
  · exact ⟨hn, fun y hy => ⟨y, hy, rfl⟩⟩
theorem runR_find {keep : List Int} (m : List UInt8) : ∀ (ns : List (List UInt8)) (j : Nat) (D : DS), ns.Nodup → ∃ j', findF m (runR keep j ns D).files = if m ∈ ns then (findF m D.files).map (cutF keep j') else findF m D.files
  | [], j, D, _ => ⟨0, by simp [runR]⟩
  | s :: r, j, D, h => by
    rw [List.nodup_cons] at h
    obtain ⟨j', hj'⟩ := runR_find (keep := keep) m r (j + 1) (stepR keep D j s) h.2
    by_cases h1 : m = s
    · refine ⟨j, ?_⟩
      rw [runR, hj', if_neg (by rw [h1]; exact h.1), stepR_find, if_pos h1, if_pos (by simp [h1])]
    · refine ⟨j', ?_⟩
      rw [runR, hj', stepR_find, if_neg h1]
      simp [h1]
theorem runR_names {keep : List Int} : ∀ (ns : List (List UInt8)) (j : Nat) (D : DS), (D.files.map (·.name)).Nodup → ((runR keep j ns D).files.map (·.name)).Nodup ∧ (∀ y ∈ (runR keep j ns D).files, ∃ z ∈ D.files, z.name = y.name) ∧ (runR keep j ns D).room = D.room
  | [], j, D, h => ⟨h, fun y hy => ⟨y, hy, rfl⟩, rfl⟩
  | s :: r, j, D, h => by
    obtain ⟨h1, h2⟩ := stepR_names (keep := keep) (j := j) (s := s) h
    obtain ⟨h3, h4, h5⟩ := runR_names (keep := keep) r (j + 1) _ h1
    refine ⟨h3, fun y hy => ?_, h5.trans (by unfold stepR; split <;> rfl)⟩
    obtain ⟨z, hz, e⟩ := h4 y hy
    obtain ⟨z', hz', e'⟩ := h2 z hz
    exact ⟨z', hz', e'.trans e⟩
theorem keepI_most {keep : List Int} {j : Nat} {x : File} {b : Nat} (h : ∀ k ∈ keep, k ≤ (b : Int)) : keepI keep j x ≤ b := by
  unfold keepI
  split
  · rename_i k hk
    have := h k (List.mem_of_getElem? hk)
    simp only
    split <;> split <;> omega
  · omega
theorem restart_eff {D : DS} {s p : List UInt8} {q : Nat} (h : WD D s p q) (g : D.Good) (keep : List Int) :
    ∃ m, q ≤ m ∧ m ≤ p.length ∧ (∀ b : Nat, (∀ k ∈ keep, k ≤ (b : Int)) → m ≤ q + b) ∧ WD (D.restart keep) s (p.take m) m ∧ (D.restart keep).off = false ∧ (D.restart keep).arm = 0 ∧ (D.restart keep).room = D.room := by
  have hns : D.names.Nodup := (List.mergeSort_perm _ _).nodup_iff.mpr g.nd
  have hmem : ∀ m, m ∈ D.names ↔ m ∈ D.files.map (·.name) := fun m => (List.mergeSort_perm _ _).mem_iff
  obtain ⟨n1, n2, n3⟩ := runR_names (keep := keep) D.names 0 D g.nd
  obtain ⟨j', hj⟩ := runR_find (keep := keep) s D.names 0 D hns
  have hcon := h.con
  have only' : ∀ x ∈ (runR keep 0 D.names D).files, x.name = s ∨ x.name = newN s := fun x hx => by
    obtain ⟨z, hz, e⟩ := n2 x hx
    rw [← e]; exact h.only z hz
  unfold Go.VM.con at hcon
  split at hcon <;> rename_i hx <;> injection hcon with h1 h2
  · rename_i x
    have hs := g.sure x (findF_mem hx)
    obtain ⟨k1, k2⟩ := keepI_le keep j' x hs
    rw [if_pos ((hmem s).2 (List.mem_map.2 ⟨x, findF_mem hx, findF_name hx⟩)), hx] at hj
    refine ⟨q + (keepI keep j' x).toNat, by omega, by rw [← h1, ← h2]; omega, fun b hb => (by have := keepI_most (j := j') (x := x) hb; omega), ⟨n1, only', ?_⟩, rfl, rfl, n3⟩
    unfold Go.VM.con DS.restart
    rw [hj]
    simp only [Option.map_some, cutF, h1, h2]
  · subst h1; subst h2
    refine ⟨0, Nat.le_refl _, Nat.le_refl _, fun b _ => Nat.zero_le _, ⟨n1, only', ?_⟩, rfl, rfl, n3⟩
    have hj : findF s (runR keep 0 D.names D).files = none := by rw [hj, hx]; split <;> rfl
    unfold Go.VM.con DS.restart
    rw [hj]; rfl
end Go.VM

namespace Go.VM
open Go Go.RowKit Go.Proofs

/-- A disk with power: the file's bytes, and how many of them are durable. -/
structure Dg (S : St) (i : Nat) (D : Dk) (s p : List UInt8) (q : Nat) (room : Int) : Prop where
  d : DiskAt S i D
  v : WD D.abs s p q
  off : D.abs.off = false
  arm : D.abs.arm = 0
  room : D.abs.room = room
/-- A log with power. -/
structure Lg (S : St) (i g : Nat) (D : Dk) (t : Tok) (s : List UInt8) (L : List (List UInt8)) (q : Nat) (room : Int) : Prop where
  w : WalAt S i g D s L t
  v : WD D.abs s (fileB L) q
  c : D.abs.clean s
  off : D.abs.off = false
  arm : D.abs.arm = 0
  room : D.abs.room = room
theorem Lg.dg {S : St} {i g : Nat} {D : Dk} {t : Tok} {s : List UInt8} {L : List (List UInt8)} {q : Nat} {room : Int} (h : Lg S i g D t s L q room) : Dg S i D s (fileB L) q room := ⟨h.w.d, h.v, h.off, h.arm, h.room⟩
theorem Lg.keep {S S' : St} {i g : Nat} {D : Dk} {t : Tok} {s : List UInt8} {L : List (List UInt8)} {q : Nat} {room : Int} {o : Nat → Prop} (h : Lg S i g D t s L q room) (k : Keeps o S S') (ho : ∀ j, ownW i g D t j → ¬ o j) : Lg S' i g D t s L q room := ⟨h.w.keep k ho, h.v, h.c, h.off, h.arm, h.room⟩
theorem Lg.stay {S S' : St} {i g : Nat} {D : Dk} {t : Tok} {s : List UInt8} {L : List (List UInt8)} {q : Nat} {room : Int} (h : Lg S i g D t s L q room) (k : Keeps (fun _ => False) S S') : Lg S' i g D t s L q room := h.keep k fun _ _ => id
theorem Dg.stay {S S' : St} {i : Nat} {D : Dk} {s p : List UInt8} {q : Nat} {room : Int} (h : Dg S i D s p q room) (k : Keeps (fun _ => False) S S') : Dg S' i D s p q room := ⟨h.d.stay k, h.v, h.off, h.arm, h.room⟩
theorem frameB_le {r : List UInt8} (h : r.length ≤ 65535) : (frameB r).length ≤ r.length + 9 := by rw [frameB_len]; have := uvar_len3 h; omega
theorem frameB_pos (r : List UInt8) : 7 ≤ (frameB r).length := by rw [frameB_len]; have := uvar_pos r.length; omega
theorem fileB_nil {L : List (List UInt8)} (h : fileB L = []) : L = [] := by
  cases L with
  | nil => rfl
  | cons r L =>
    have := frameB_pos r
    have e : (fileB (r :: L)).length = (frameB r).length + (fileB L).length := by simp [fileB]
    rw [h] at e; simp at e; omega
theorem fileB_len (L : List (List UInt8)) : 7 * L.length ≤ (fileB L).length := by
  induction L with
  | nil => simp
  | cons r L ih =>
    have := frameB_pos r
    have e : (fileB (r :: L)).length = (frameB r).length + (fileB L).length := by simp [fileB]
    rw [e, List.length_cons]; omega

theorem new_ok {w0 : World} {S : St} {Q : AEnd → St → Prop} {n : Int} (s : List UInt8) (h0 : 0 ≤ n) (hn : n ≤ 67108864) (hQ : ∀ S' i D, Dg S' i D s [] 0 n → D.abs.clean s → (∀ j, ownD i D j → S.n ≤ j) → Keeps (fun _ => False) S S' → Q (.ret (.tup [.ptr (some (i, 0)), .int .i64 0])) S') :
    RSim Tryz.prog w0 n_disk_New [.int .i64 n] S Q := by
  refine new_runs (fun S1 i _ _ hi d1 k1 => ?_) (fun h => by omega)
  refine hQ S1 i _ ⟨d1, ⟨by simp [Dk.abs], fun x hx => (by cases hx), rfl⟩, rfl, rfl, rfl⟩ rfl (fun j hj => ?_) k1
  rcases hj with rfl | rfl | ⟨e, he, _⟩
  · exact hi
  · exact Nat.le_refl _
  · cases he
theorem append_ok {w0 : World} {S : St} {Q : AEnd → St → Prop} {i g : Nat} {D : Dk} {s r : List UInt8} {L : List (List UInt8)} {t : Tok} {q : Nat} {room : Int} {vr : V} (h : Lg S i g D t s L q room) (hn : nameOk s = true) (hr : IsBytes vr r) (hs : r.length ≤ 65535)
    (hroom : ((fileB L).length : Int) + (frameB r).length ≤ room)
    (hQ : ∀ S' D' t', Lg S' i g D' t' s (L ++ [r]) q room → Keeps (ownW i g D t) S S' → (∀ j, ownW i g D' t' j → ownW i g D t j ∨ S.n ≤ j) → Q (.ret (.int .i64 0)) S') :
    RSim Tryz.prog w0 n_wal_Log_Append [.ptr (some (g, 0)), vr] S Q := by
  have g1 := h.w.d.good
  have hL := fileB_len L
  have hrm := g1.room
  have hro := h.room
  obtain ⟨b1, b2⟩ := begun_calm h.arm
  obtain ⟨e1, e2, e3, e4, e5, e6⟩ := grow_eff (f := frameB r) h.v g1 h.c hn h.off (by rw [h.room]; exact hroom)
  rw [if_neg (by rw [b1]; decide)] at e1
  refine logAppend_runs h.w hr (by omega) (fun h => by omega) (fun S1 D1 _ W a hne => absurd e1 hne) fun S1 D1 t1 _ W a _ => ?_
  rw [← a] at e2 e3 e4 e5 e6
  exact hQ S1 D1 t1 ⟨W.w, by rw [fileB_snoc]; exact e2, e3, e4.trans b1, e5.trans b2, e6.trans h.room⟩ W.k W.o
theorem sync_ok {w0 : World} {S : St} {Q : AEnd → St → Prop} {i g : Nat} {D : Dk} {s : List UInt8} {L : List (List UInt8)} {t : Tok} {q : Nat} {room : Int} (h : Lg S i g D t s L q room) (hn : nameOk s = true)
    (hQ : ∀ S' D', Lg S' i g D' t s L (fileB L).length room → Keeps (ownW i g D t) S S' → (∀ j, ownW i g D' t j → ownW i g D t j ∨ S.n ≤ j) → Q (.ret (.int .i64 0)) S') :
    RSim Tryz.prog w0 n_wal_Log_Sync [.ptr (some (g, 0))] S Q := by
  obtain ⟨b1, b2⟩ := begun_calm h.arm
  refine logSync_runs h.w fun S1 D1 W a => ?_
  unfold DS.syncL at a ⊢
  rcases sync_eff h.v hn h.off with ⟨h1, h2, h3, h4⟩ | ⟨h1, _⟩ | ⟨_, h1, h2, h3, h4, h5, h6⟩
  · have hL := fileB_nil h3
    rw [h1, if_pos ⟨rfl, hL⟩]
    rw [h2] at a
    refine hQ S1 D1 ⟨W.w, ?_, by rw [a]; exact h.c, by rw [a]; exact h.off, by rw [a]; exact h.arm, by rw [a]; exact h.room⟩ W.k W.o
    have := h.v
    rw [h4, ← a, h3] at this
    rw [h3]; exact this
  · rw [b1] at h1; cases h1
  · rw [h1, if_neg (by rintro ⟨h, _⟩; cases h)]
    rw [← a] at h2 h3 h4 h5 h6
    exact hQ S1 D1 ⟨W.w, h2, h3 h.c, h4, h5.trans b2, h6.trans h.room⟩ W.k W.o
theorem WD.few {D : Dk} {S : St} {i : Nat} {s p : List UInt8} {q : Nat} (h : WD D.abs s p q) : D.ents.length ≤ 2 := by
  have key : ∀ l : List File, (l.map (·.name)).Nodup → (∀ x ∈ l, x.name = s ∨ x.name = newN s) → l.length ≤ 2 := by
    intro l hn ho
    match l, hn, ho with
    | [], _, _ => simp
    | [_], _, _ => simp
    | [_, _], _, _ => simp
    | x :: y :: z :: r, hn, ho =>
      exfalso
      simp only [List.map_cons, List.nodup_cons, List.mem_cons, not_or] at hn
      obtain ⟨⟨h1, h2, _⟩, ⟨h3, _⟩, _⟩ := hn
      rcases ho x (by simp) with a | a <;> rcases ho y (by simp) with b | b <;> rcases ho z (by simp) with c | c <;> simp_all
  have := key D.abs.files h.nd h.only
  simpa [Dk.abs] using this
theorem restart_ok {w0 : World} {S : St} {Q : AEnd → St → Prop} {i : Nat} {D : Dk} {s p : List UInt8} {q : Nat} {room : Int} {keep : List Int} {kt : Tok} (d : DiskAt S i D) (v : WD D.abs s p q) (hr : D.abs.room = room) (hkn : kt = .nil → keep = [])
    (hQ : ∀ S' D' m, q ≤ m → m ≤ p.length → (∀ b : Nat, (∀ k ∈ keep, k ≤ (b : Int)) → m ≤ q + b) → Dg S' i D' s (p.take m) m room → After S i D S' D' → Q (.ret (.int .i64 0)) S') : RSim Tryz.prog w0 n_disk_Disk_Restart [.ptr (some (i, 0)), intsV keep kt] S Q := by
  refine restart_runs d (by have := WD.few (S := S) (i := i) v; omega) hkn fun S1 D1 d1 a1 k1 o1 => ?_
  obtain ⟨m, h1, h2, hb, h3, h4, h5, h6⟩ := restart_eff v d.good keep
  rw [← a1] at h3 h4 h5 h6
  exact hQ S1 D1 m h1 h2 hb ⟨d1, h3, h4, h5, h6.trans hr⟩ ⟨d1, k1, o1⟩
theorem scans_short {l : List UInt8} {L : List (List UInt8)} {n : Nat} (h : Scans l L n) : shortL L := by
  induction h with
  | stop _ => intro r hr; cases hr
  | step h _ ih =>
    intro r hr
    rcases List.mem_cons.1 hr with rfl | hr
    · unfold readF at h
      split at h
      · cases h
      · split at h
        · cases h
        · split at h
          · cases h
          · rename_i hno
            split at h
            · cases h
            · injection h with h; injection h with h1 h2
              rw [← h1, List.length_take]
              have : ¬ _ > 65535 := fun h => hno (.inr (.inl h))
              omega
    · exact ih r hr
theorem open_ok {w0 : World} {S : St} {Q : AEnd → St → Prop} {i : Nat} {D : Dk} {s p : List UInt8} {q : Nat} {room : Int} {L : List (List UInt8)} {n : Nat} (h : Dg S i D s p q room) (hs : nameOk s = true) (hs' : nameOk (newN s) = true) (hsl : s.length ≤ 28)
    (hq : q ≤ p.length) (hsc : Scans p L n) (hp : n = p.length → p = fileB L) (hroom : (p.length : Int) + (fileB L).length ≤ room)
    (hQ : ∀ S' D' g t, Lg S' i g D' t s L (if n < p.length then (fileB L).length else q) room → Keeps (ownD i D) S S' → (∀ j, ownW i g D' t j → ownD i D j ∨ S.n ≤ j) → (n < p.length → ∃ x, D'.abs.files.map (·.name) = x ∧ s ∈ x) → (¬ n < p.length → D'.abs = D.abs.opened s) → Q (.ret (.tup [.ptr (some (g, 0)), .int .i64 0])) S') :
    RSim Tryz.prog w0 n_wal_Open [.ptr (some (i, 0)), .str (mkS s)] S Q := by
  have g0 := h.d.good
  have hrm := g0.room
  have hro := h.room
  obtain ⟨e1, v1, c1, o1, a1, r1⟩ := opened_eff h.v hs' h.off h.arm
  obtain ⟨y1, y2, y3⟩ := v1.bytes hs o1
  have g1 : (D.abs.opened s).Good := by
    obtain ⟨b1, b2⟩ := begun_calm h.arm
    unfold DS.opened DS.remove DS.change
    rw [if_neg (by simp [hs']), if_neg (by simp [h.off])]
    split
    · exact g0
    · rename_i x hx
      simp only [b1, Bool.false_eq_true, if_false]
      refine ⟨nd_del g0.nd, ?_, hrm, fun y hy => g0.sure y (mem_del hy)⟩
      have hu : ∀ l : List File, (l.map (·.name)).Nodup → findF (newN s) l = some x → (sumF l : Int) - x.p.length = sumF (delF (newN s) l) := by
        intro l
        induction l with
        | nil => intro _ h; cases h
        | cons y r ih =>
          intro hn hf
          rw [List.map_cons, List.nodup_cons] at hn
          unfold findF at hf; unfold delF
          by_cases he : y.name = newN s
          · rw [if_pos he] at hf ⊢
            injection hf with hf; subst hf
            simp [sumF]; omega
          · rw [if_neg he] at hf ⊢
            have := ih hn.2 hf
            simp only [sumF, List.map_cons, List.sum_cons] at this ⊢
            omega
      show D.abs.begun.used - (x.p.length : Int) = _
      rw [show D.abs.begun.used = D.abs.used from rfl, g0.used]
      exact hu _ g0.nd hx
  have hL := scans_short hsc
  have hw := write_eff (L := L) v1 g1 c1 hs hs' o1 hL (by rw [r1, h.room]; exact hroom)
  have hw0 : ((D.abs.opened s).writeL s L).1 = 0 ∧ WD ((D.abs.opened s).writeL s L).2 s (fileB L) (fileB L).length ∧ ((D.abs.opened s).writeL s L).2.clean s ∧ ((D.abs.opened s).writeL s L).2.off = false ∧ ((D.abs.opened s).arm = 0 → ((D.abs.opened s).writeL s L).2.arm = 0) ∧ ((D.abs.opened s).writeL s L).2.room = (D.abs.opened s).room ∧ (∃ x, ((D.abs.opened s).writeL s L).2.files.map (·.name) = x ∧ s ∈ x) := by
    rcases hw with hw | ⟨_, hne, _⟩
    · exact hw
    · exact absurd a1 hne
  obtain ⟨w1, w2, w3, w4, w5, w6, w7⟩ := hw0
  have hLl := fileB_len L
  refine open_runs h.d hs hsl e1 y2 (by rw [y1]; omega) (fun L' n' hsc' hlt => ?_) fun S1 D1 g t L' n' hsc' hle O a => ?_
  · rw [y1] at hsc'
    obtain ⟨rfl, rfl⟩ := hsc.det hsc'
    exact ⟨w1, by omega, by omega⟩
  · rw [y1] at hsc' a hle
    obtain ⟨rfl, rfl⟩ := hsc.det hsc'
    by_cases hlt : n < p.length
    · rw [if_pos hlt] at a
      rw [← a] at w2 w3 w4 w5 w6 w7
      refine hQ S1 D1 g t ⟨O.w, ?_, w3, w4, w5 a1, w6.trans (r1.trans h.room)⟩ O.k O.o (fun _ => w7) (fun hn => absurd hlt hn)
      rw [if_pos hlt]; exact w2
    · rw [if_neg hlt] at a
      have hpe := hp (by omega)
      rw [← a] at v1 c1 o1 a1 r1
      refine hQ S1 D1 g t ⟨O.w, ?_, c1, o1, a1, r1.trans h.room⟩ O.k O.o (fun h => absurd h hlt) (fun _ => a)
      rw [if_neg hlt, ← hpe]; exact v1
end Go.VM

namespace Go.VM
open Go Go.RowKit Go.Proofs

theorem take_pre {L : List (List UInt8)} {j m : Nat} (h : (fileB (L.take j)).length = m) : (fileB L).take m = fileB (L.take j) := by
  have := fileB_append (L.take j) (L.drop j)
  rw [List.take_append_drop] at this
  rw [this, ← h, List.take_left]
theorem take_pre' {L : List (List UInt8)} {j m : Nat} (hm : m ≤ (fileB L).length) (h : (fileB (L.take j)).length = ((fileB L).take m).length) : (fileB L).take m = fileB (L.take j) := by
  rw [List.length_take, Nat.min_eq_left hm] at h
  exact take_pre h

end Go.VM
