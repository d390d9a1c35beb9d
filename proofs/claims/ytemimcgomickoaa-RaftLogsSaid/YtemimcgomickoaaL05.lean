/-
  Parts: DSpec, DGrow, DChange, DRename, DRestart, DAbs, PBits, DOff, DLasts, DLastsRun.
-/
import Derived.Test.YtemimcgomickoaaL04
set_option linter.unusedVariables false
set_option linter.unusedSimpArgs false
set_option maxRecDepth 20000
namespace Go.VM
open Go Go.RowKit Go.Proofs
structure File where
 name : List UInt8
 p : List UInt8
 sure : Nat
structure DS where
 files : List File
 room : Int
 used : Int
 ops : Int
 arm : Int
 off : Bool
def Ent.file (e : Ent) : File := ⟨e.name, e.p, e.sure⟩
def Dk.abs (D : Dk) : DS := ⟨D.ents.map Ent.file, D.room, D.used, D.ops, D.arm, D.off⟩
def DS.begun (D : DS) : DS := { D with ops := IntKind.i64.wrap (D.ops + 1), arm := if D.arm > 0 then IntKind.i64.wrap (D.arm - 1) else D.arm, off := decide (D.arm > 0) && IntKind.i64.wrap (D.arm - 1) == 0 }
def findF (s : List UInt8) : List File → Option File
 | [] => none
 | x :: r => if x.name = s then some x else findF s r
def putF (x : File) : List File → List File
 | [] => [x]
 | y :: r => if y.name = x.name then x :: r else y :: putF x r
def delF (s : List UInt8) : List File → List File
 | [] => []
 | y :: r => if y.name = s then r else y :: delF s r
theorem findF_some {s : List UInt8} {e : Ent} {b : List Ent} (he : e.name = s) : ∀ {a : List Ent}, (∀ x ∈ a, x.name ≠ s) → findF s ((a ++ e :: b).map Ent.file) = some e.file
 | [], _ => by simp [findF, Ent.file, he]
 | x :: a, h => by
  have h1 : ¬ x.name = s := h x (by simp)
  have := findF_some (b := b) he (a := a) fun y hy => h y (by simp [hy])
  simpa [findF, Ent.file, h1] using this
theorem findF_none {s : List UInt8} : ∀ {l : List Ent}, (∀ x ∈ l, x.name ≠ s) → findF s (l.map Ent.file) = none
 | [], _ => rfl
 | x :: l, h => by
  have h1 : ¬ x.name = s := h x (by simp)
  have := findF_none (l := l) fun y hy => h y (by simp [hy])
  simpa [findF, Ent.file, h1] using this
theorem putF_some {s : List UInt8} {e e' : Ent} {b : List Ent} (he : e.name = s) (he' : e'.name = s) : ∀ {a : List Ent}, (∀ x ∈ a, x.name ≠ s) → putF e'.file ((a ++ e :: b).map Ent.file) = (a ++ e' :: b).map Ent.file
 | [], _ => by simp [putF, Ent.file, he, he']
 | x :: a, h => by
  have h1 : ¬ x.name = s := h x (by simp)
  have := putF_some (b := b) he he' (a := a) fun y hy => h y (by simp [hy])
  simpa [putF, Ent.file, h1, he'] using this
theorem putF_none {s : List UInt8} {e' : Ent} (he' : e'.name = s) : ∀ {l : List Ent}, (∀ x ∈ l, x.name ≠ s) → putF e'.file (l.map Ent.file) = (l ++ [e']).map Ent.file
 | [], _ => rfl
 | x :: l, h => by
  have h1 : ¬ x.name = s := h x (by simp)
  have := putF_none he' (l := l) fun y hy => h y (by simp [hy])
  simpa [putF, Ent.file, h1, he'] using this
theorem delF_some {s : List UInt8} {e : Ent} {b : List Ent} (he : e.name = s) : ∀ {a : List Ent}, (∀ x ∈ a, x.name ≠ s) → delF s ((a ++ e :: b).map Ent.file) = (a ++ b).map Ent.file
 | [], _ => by simp [delF, Ent.file, he]
 | x :: a, h => by
  have h1 : ¬ x.name = s := h x (by simp)
  have := delF_some (b := b) he (a := a) fun y hy => h y (by simp [hy])
  simpa [delF, Ent.file, h1] using this
def DS.grow (D : DS) (s p : List UInt8) (fresh : Bool) : Int × DS :=
 if nameOk s = false then (1, D)
 else if D.off = true then (10, D)
 else if fresh = true ∧ (findF s D.files).isSome = true then (9, D)
 else if (p.length : Int) > D.room - D.used then (11, D)
 else
  let x := (findF s D.files).getD ⟨s, [], 0⟩
  (if D.begun.off = true then 10 else 0, { D.begun with files := putF { x with p := x.p ++ p } D.files, used := D.used + p.length })
theorem grow_exists {D : DS} {s p : List UInt8} {fresh : Bool} (hn : nameOk s = true) (ho : D.off = false) (hf : fresh = true ∧ (findF s D.files).isSome = true) : D.grow s p fresh = (9, D) := by
 unfold DS.grow; rw [if_neg (by simp [hn]), if_neg (by simp [ho]), if_pos hf]
theorem grow_full {D : DS} {s p : List UInt8} {fresh : Bool} (hn : nameOk s = true) (ho : D.off = false) (hf : ¬ (fresh = true ∧ (findF s D.files).isSome = true)) (hc : (p.length : Int) > D.room - D.used) : D.grow s p fresh = (11, D) := by
 unfold DS.grow; rw [if_neg (by simp [hn]), if_neg (by simp [ho]), if_neg hf, if_pos hc]
theorem grow_done {D : DS} {s p : List UInt8} {fresh : Bool} (hn : nameOk s = true) (ho : D.off = false) (hf : ¬ (fresh = true ∧ (findF s D.files).isSome = true)) (hc : ¬ (p.length : Int) > D.room - D.used) :
  D.grow s p fresh = (if D.begun.off = true then 10 else 0, { D.begun with files := putF { ((findF s D.files).getD ⟨s, [], 0⟩) with p := ((findF s D.files).getD ⟨s, [], 0⟩).p ++ p } D.files, used := D.used + p.length }) := by
 unfold DS.grow; rw [if_neg (by simp [hn]), if_neg (by simp [ho]), if_neg hf, if_neg hc]
end Go.VM
namespace Go.VM
open Go Go.RowKit Go.Proofs
theorem DiskAt.repl {S S' : St} {i : Nat} {D D' : Dk} {a b : List Ent} {e e' : Ent} {o : Nat → Prop} (h : DiskAt S i D) (he : D.ents = a ++ e :: b) (k : Keeps o S S') (ho : ∀ j, o j → j = i ∨ j = e.f ∨ e.t = .at j)
  (hh : S'.cells i = some D'.cells) (em : D'.m = D.m) (ec : D'.c = D.c) (ee : D'.ents = a ++ e' :: b) (h1 : e'.name = e.name) (h2 : e'.f = e.f) (h3 : e'.born = e.born) (hE : EntAt S' e') (ht : ∀ j, e'.t = .at j → S.n ≤ j ∨ e.t = .at j) (hw : D'.Wf) :
  DiskAt S' i D' ∧ (∀ j, ownD i D' j → ownD i D j ∨ S.n ≤ j) := by
 have hem : e ∈ D.ents := by rw [he]; simp
 have htoks := h.toks
 rw [he] at htoks
 obtain ⟨ta, tb, tab⟩ := List.pairwise_append.1 htoks
 rw [List.pairwise_cons] at tb
 have hobj := h.objs
 rw [he] at hobj
 have hold : ∀ x, x ∈ a ∨ x ∈ b → x ∈ D.ents := fun x hx => by rw [he]; rcases hx with hx | hx <;> simp [hx]
 have hne : ∀ x, x ∈ a ∨ x ∈ b → x.f ≠ e.f := fun x hx e' => by
  simp only [List.map_append, List.map_cons] at hobj
  rw [List.nodup_append] at hobj
  rcases hx with hx | hx
  ·exact hobj.2.2 x.f (List.mem_map.2 ⟨x, hx, rfl⟩) e.f (by simp) e'
  ·have := hobj.2.1
   rw [List.nodup_cons] at this
   exact this.1 (List.mem_map.2 ⟨x, hx, e'⟩)
 have htne : ∀ x, x ∈ a ∨ x ∈ b → ∀ j, x.t = .at j → e.t ≠ .at j := fun x hx j hj => by
  rcases hx with hx | hx
  ·exact tab x hx e (by simp) j hj
  ·exact fun he' => tb.1 x hx j he' hj
 have hkeep : ∀ x, x ∈ a ∨ x ∈ b → EntAt S' x := fun x hx => by
  have hx' := hold x hx
  refine (h.ents x hx').keep k (fun hj => ?_) fun j hj hoj => ?_
  ·rcases ho _ hj with h' | h' | h'
   ·exact h.ne_f hx' h'.symm
   ·exact hne x hx h'
   ·exact tok_cells (h.ents e hem).tok (hp_cells (h.ents x hx').cells) (by intro x; cases x) h'
  ·rcases ho _ hoj with h' | h' | h'
   ·subst h'; exact tok_cells (h.ents x hx').tok (hp_cells h.head) (by intro x; cases x) hj
   ·subst h'; exact tok_cells (h.ents x hx').tok (hp_cells (h.ents e hem).cells) (by intro x; cases x) hj
   ·exact htne x hx j hj h'
 have hcell : D'.ents.map Ent.cell = D.ents.map Ent.cell := by
  rw [ee, he]; simp [Ent.cell, h1, h2, h3]
 refine ⟨⟨hh, k.lt h.lt, ?_, by rw [em]; exact k.lt h.mlt, fun x hx => ?_, ?_, ?_, ?_, fun x hx => ?_, ?_, hw⟩, fun j hj => ?_⟩
 ·rw [em, ec, hcell]
  refine hp_keep h.map k h.mlt fun hj => ?_
  rcases ho _ hj with h' | h' | h'
  ·exact h.ne_m h'.symm
  ·exact h.ne_mf hem h'
  ·exact tok_cells (h.ents e hem).tok h.map (by intro x; cases x) h'
 ·rw [ee] at hx
  rcases List.mem_append.1 hx with hx | hx
  ·exact hkeep x (.inl hx)
  ·rcases List.mem_cons.1 hx with rfl | hx
   ·exact hE
   ·exact hkeep x (.inr hx)
 ·have := h.names; rw [he] at this; rw [ee]; simpa [h1] using this
 ·have := h.objs; rw [he] at this; rw [ee]; simpa [h2] using this
 ·have := h.born; rw [he] at this; rw [ee]; simpa [h3] using this
 ·rw [ec]
  rw [ee] at hx
  rcases List.mem_append.1 hx with hx | hx
  ·exact h.clock x (hold x (.inl hx))
  ·rcases List.mem_cons.1 hx with rfl | hx
   ·rw [h3]; exact h.clock e hem
   ·exact h.clock x (hold x (.inr hx))
 ·have old : ∀ x, x ∈ a ∨ x ∈ b → ∀ j, x.t = .at j → j < S.n := fun x hx j hj => by
   have := (h.ents x (hold x hx)).tok
   rw [hj] at this; exact this.1
  rw [ee, List.pairwise_append, List.pairwise_cons]
  refine ⟨ta, ⟨fun x hx j hj hj' => ?_, tb.2⟩, fun x hx y hy j hj hj' => ?_⟩
  ·have := old x (.inr hx) j hj'
   rcases ht j hj with h6 | h6
   ·omega
   ·exact tb.1 x hx j h6 hj'
  ·rcases List.mem_cons.1 hy with rfl | hy
   ·have := old x (.inl hx) j hj
    rcases ht j hj' with h6 | h6
    ·omega
    ·exact tab x hx e (by simp) j hj h6
   ·exact tab x hx y (by simp [hy]) j hj hj'
 ·rcases hj with rfl | rfl | ⟨x, hx, hj⟩
  ·exact .inl (.inl rfl)
  ·exact .inl (.inr (.inl em))
  ·rw [ee] at hx
   rcases List.mem_append.1 hx with hx | hx
   ·exact .inl (.inr (.inr ⟨x, hold x (.inl hx), hj⟩))
   ·rcases List.mem_cons.1 hx with rfl | hx
    ·rcases hj with rfl | hj
     ·exact .inl (.inr (.inr ⟨e, hem, .inl h2⟩))
     ·rcases ht j hj with h6 | h6
      ·exact .inr h6
      ·exact .inl (.inr (.inr ⟨e, hem, .inr h6⟩))
    ·exact .inl (.inr (.inr ⟨x, hold x (.inr hx), hj⟩))
theorem DiskAt.more {S S' : St} {i : Nat} {D D' : Dk} {e' : Ent} (h : DiskAt S i D) (k : Keeps (fun j => j = i ∨ j = D.m) S S')
  (hh : S'.cells i = some D'.cells) (hm : S'.hp D.m = some (.map (D.ents.map Ent.cell ++ [e'.cell]) (D.c + 1))) (em : D'.m = D.m) (ec : D'.c = D.c + 1) (ee : D'.ents = D.ents ++ [e']) (h1 : ∀ x ∈ D.ents, x.name ≠ e'.name) (h2 : S.n ≤ e'.f) (h3 : e'.born = D.c) (hE : EntAt S' e') (ht : ∀ j, e'.t = .at j → S.n ≤ j) (hw : D'.Wf) :
  DiskAt S' i D' ∧ (∀ j, ownD i D' j → ownD i D j ∨ S.n ≤ j) := by
 have hkeep : ∀ x ∈ D.ents, EntAt S' x := fun x hx => by
  refine (h.ents x hx).keep k (fun hj => ?_) fun j hj hoj => ?_
  ·rcases hj with h' | h'
   ·exact h.ne_f hx h'.symm
   ·exact h.ne_mf hx h'.symm
  ·rcases hoj with h' | h'
   ·subst h'; exact tok_cells (h.ents x hx).tok (hp_cells h.head) (by intro x; cases x) hj
   ·subst h'; exact tok_cells (h.ents x hx).tok h.map (by intro x; cases x) hj
 refine ⟨⟨hh, k.lt h.lt, by rw [em, ec, ee]; simpa using hm, by rw [em]; exact k.lt h.mlt, fun x hx => ?_, ?_, ?_, ?_, fun x hx => ?_, ?_, hw⟩, fun j hj => ?_⟩
 ·rw [ee] at hx
  rcases List.mem_append.1 hx with hx | hx
  ·exact hkeep x hx
  ·simp at hx; subst hx; exact hE
 ·rw [ee, List.map_append, List.nodup_append]
  refine ⟨h.names, by simp, fun x hx y hy => ?_⟩
  simp at hy; subst hy
  obtain ⟨z, hz, rfl⟩ := List.mem_map.1 hx
  exact h1 z hz
 ·rw [ee, List.map_append, List.nodup_append]
  refine ⟨h.objs, by simp, fun x hx y hy => ?_⟩
  simp at hy; subst hy
  obtain ⟨z, hz, rfl⟩ := List.mem_map.1 hx
  have := (h.ents z hz).lt
  omega
 ·rw [ee, List.map_append, List.nodup_append]
  refine ⟨h.born, by simp, fun x hx y hy => ?_⟩
  simp at hy; subst hy
  obtain ⟨z, hz, rfl⟩ := List.mem_map.1 hx
  have := h.clock z hz
  omega
 ·rw [ec]
  rw [ee] at hx
  rcases List.mem_append.1 hx with hx | hx
  ·have := h.clock x hx; omega
  ·simp at hx; subst hx; omega
 ·rw [ee, List.pairwise_append]
  refine ⟨h.toks, List.pairwise_singleton _ _, fun x hx y hy j hj hj' => ?_⟩
  simp at hy; subst hy
  have h4 := (h.ents x hx).tok
  rw [hj] at h4
  have := ht j hj'
  have := h4.1
  omega
 ·rcases hj with rfl | rfl | ⟨x, hx, hj⟩
  ·exact .inl (.inl rfl)
  ·exact .inl (.inr (.inl em))
  ·rw [ee] at hx
   rcases List.mem_append.1 hx with hx | hx
   ·exact .inl (.inr (.inr ⟨x, hx, hj⟩))
   ·simp at hx; subst hx
    rcases hj with rfl | hj
    ·exact .inr h2
    ·exact .inr (ht j hj)
def entPtr : Option Ent → V
 | some e => .ptr (some (e.f, 0))
 | none => .ptr none
theorem entPtr_some (e : Ent) : entPtr (some e) = .ptr (some (e.f, 0)) := (rfl)
theorem entPtr_none : entPtr none = .ptr none := (rfl)
structure BytesIn (S : St) (o : Nat → Prop) (v : V) (bs : List UInt8) : Prop where
 one : v.one = true
 len : aF (.len .sl (.c v)) fr00 St.empty = some (.int .i64 bs.length)
 elems : ∀ S', Keeps o S S' → v.elems S' 1 = some (bs.length, bs.map u8V)
theorem IsBytes.into {v : V} {bs : List UInt8} (h : IsBytes v bs) (S : St) (o : Nat → Prop) : BytesIn S o v bs := by
 obtain ⟨t, rfl, h'⟩ := id h
 exact ⟨rfl, rfl, fun S' _ => h.elems S'⟩
theorem sumLen_mem {l : List Ent} {e : Ent} (h : e ∈ l) : e.p.length ≤ sumLen l := by
 induction l with
 | nil => cases h
 | cons x l ih =>
  simp only [sumLen, List.map_cons, List.sum_cons] at ih ⊢
  rcases List.mem_cons.1 h with rfl | h
  ·omega
  ·have := ih h; omega
theorem sumLen_mid (a b : List Ent) (e : Ent) : sumLen (a ++ e :: b) = sumLen a + e.p.length + sumLen b := by
 simp [sumLen]; omega
theorem grow_runs {w0 : World} {S : St} {Q : AEnd → St → Prop} {i : Nat} {D : Dk} {s p : List UInt8} {v : V} {fresh : Bool} (h : DiskAt S i D) (hs : s.length ≤ 1000000000000000) (hp : BytesIn S (ownD i D) v p) (hpl : p.length ≤ 1000000000000000)
    (hQ : ∀ S' D', DiskAt S' i D' → D'.abs = (D.abs.grow s p fresh).2 → Keeps (ownD i D) S S' → (∀ j, ownD i D' j → ownD i D j ∨ S.n ≤ j) → Q (.ret (.int .i64 (D.abs.grow s p fresh).1)) S') :
    RSim Try.prog w0 n_disk_Disk_grow [.ptr (some (i, 0)), .str (mkS s), v, .bool fresh] S Q := by
  have h1 := h.head
  have hm := h.map
  have hL := hp.len
  simp only [aF, Arg.ev] at hL
  have stay : ∀ e : Int, D.abs.grow s p fresh = (e, D.abs) → Q (.ret (.int .i64 e)) S := fun e he => by
    rw [he] at hQ
    exact hQ S D h rfl (Keeps.refl _ _) fun j hj => .inl hj
  refine RSim.run mixed k_disk_Disk_grow ?_ (by simp)
  simp only [b_disk_Disk_grow, go_sem]
  refine wi_call ?_
  simp only [go_sem]
  refine look1_runs hs (fun hn => ?_) (fun hn => ?_)
  · simp only [go_sem]
    refine wc_ite (b := false) (by simp only [go_sem] <;> rfl) (fun h => by cases h) (fun _ => ?_)
    have main : ∀ (x : Option Ent), (∀ e, x = some e → ∃ a b, D.ents = a ++ e :: b ∧ e.name = s ∧ ∀ y ∈ a, y.name ≠ s) → (x = none → ∀ y ∈ D.ents, y.name ≠ s) →
        ∀ fr : Fr, fr 0 = .ptr (some (i, 0)) → fr 1 = .str (mkS s) → fr 2 = v → fr 3 = .bool fresh → fr 10 = entPtr x →
        wCode (RSim Try.prog w0) k_disk_Disk_grow_0 fr S (blkQ 0 (seqQ (RSim Try.prog w0) s_disk_Disk_grow_0 (resQ [.tmp 8] Q))) := by
      intro x hx1 hx2 fr f0 f1 f2 f3 f10
      have hfind : findF s D.abs.files = x.map Ent.file := by
        cases x with
        | some e =>
          obtain ⟨a, b, he, hsn, ha⟩ := hx1 e rfl
          simp only [Dk.abs, he, Option.map_some]; exact findF_some hsn ha
        | none => exact findF_none (hx2 rfl)
      have hroom : IntKind.i64.wrap (D.room - D.used) = D.room - D.used := by
        have h2 := h.wf.used; have h3 := h.wf.fits; have h4 := h.wf.room
        exact w64 (by omega) (by omega)
      simp only [k_disk_Disk_grow_0, go_sem, f0, h1, Dk.cells]
      refine wc_ite (b := D.off) (by simp only [go_sem]) (fun hc => ?_) (fun hc => ?_)
      · simp only [go_sem]
        exact stay 10 (by simp [DS.grow, hn, Dk.abs, hc])
      · have hoff : D.off = false := hc
        have tail : (fresh = true → x = none) → ∀ fr : Fr, fr 0 = .ptr (some (i, 0)) → fr 1 = .str (mkS s) → fr 2 = v → fr 10 = entPtr x →
            wCode (RSim Try.prog w0) (.seq (.reg [0, 1, 2, 3, 4, 5, 6, 7, 8, 9, 10, 11, 12] [.run ⟨(some 38), none, .f (.mv (.t 2))⟩,
    .run ⟨(some 39), none, .f (.len .sl (.t 38))⟩,
    .run ⟨(some 40), none, .f (.mv (.t 0))⟩,
    .run ⟨(some 41), none, .f (.nilCheck (.t 40))⟩,
    .run ⟨(some 42), none, .f (.fieldAddr 1 (.t 41))⟩,
    .run ⟨(some 43), none, .f (.load false 1 (.t 42))⟩,
    .run ⟨(some 44), none, .f (.mv (.t 0))⟩,
    .run ⟨(some 45), none, .f (.nilCheck (.t 44))⟩,
    .run ⟨(some 46), none, .f (.fieldAddr 2 (.t 45))⟩,
    .run ⟨(some 47), none, .f (.load false 1 (.t 46))⟩,
    .run ⟨(some 48), none, .f (.bin .sub (.t 43) (.t 47))⟩,
    .run ⟨(some 49), none, .f (.bin .gtr (.t 39) (.t 48))⟩,
    .run ⟨(some 37), none, .f (.mv (.t 49))⟩])
   (.ite (.t 37)
   (.seq (.reg [] [.run ⟨(some 8), none, .f (.mv (.c (.int .i64 11)))⟩])
   .ret)
   .skip)) fr S (blkQ 0 (seqQ (RSim Try.prog w0) s_disk_Disk_grow_0 (resQ [.tmp 8] Q))) := by
          intro hfx fr f0 f1 f2 f10
          simp only [go_sem, f0, f1, f2, f10, h1, Dk.cells, hL, hroom]
          have hnf : ¬ (fresh = true ∧ (findF s D.abs.files).isSome = true) := by
            rw [hfind]; rintro ⟨h5, h6⟩
            rw [hfx h5] at h6; cases h6
          refine wc_ite (b := decide ((p.length : Int) > D.room - D.used)) (by simp only [go_sem]) (fun hc => ?_) (fun hc => ?_)
          · simp only [go_sem]
            exact stay 11 (grow_full hn hoff hnf (of_decide_eq_true hc))
          · have hcf : ¬ (p.length : Int) > D.abs.room - D.abs.used := of_decide_eq_false hc
            rw [grow_done hn hoff hnf hcf, hfind] at hQ
            simp only [go_sem, s_disk_Disk_grow_0, f0, f1, f2, f10, entPtr_some, entPtr_none]
            refine wi_call ?_
            simp only [go_sem]
            refine begin_runs h hoff fun S1 d1 k1 => ?_
            simp only [go_sem]
            refine wc_ite (b := false) (by simp only [go_sem] <;> rfl) (fun h => by cases h) (fun _ => ?_)
            cases x with
            | none =>
              simp only [go_sem, f0, f1, f2, f10, entPtr_some, entPtr_none]
              refine wc_ite (b := true) (by simp only [go_sem] <;> rfl) (fun _ => ?_) (fun h => by cases h)
              have hno := hx2 rfl
              have hni : ¬ i = S1.n := by have := d1.lt; omega
              have hnm : ¬ D.begun.m = S1.n := by have := d1.mlt; omega
              have him : ¬ i = D.begun.m := d1.ne_m
              have hf := findE_none (s := s) D.begun.ents 0 hno
              simp only [go_sem, f0, f1, f2, f10, entPtr_some, entPtr_none, hni, d1.head, Dk.cells]
              refine wi_e ?_
              simp only [wE]
              simp only [go_sem, f0, f1, hni, hnm, d1.map, hf]
              generalize hS2 : (S1.add (.cells [.sl [] 0 1 .nil, .int .i64 0])).set D.begun.m (.map (D.begun.ents.map Ent.cell ++ [(.str (mkS s), .ptr (some (S1.n, 0)), D.begun.c)]) (D.begun.c + 1)) = S2
              have k2 : Keeps (fun j => j = D.begun.m) S1 S2 := hS2 ▸ ((Keeps.refl (fun j => j = D.begun.m) S1).add _).set (i := D.begun.m) (.inl (show D.begun.m = D.begun.m from rfl)) _
              have n2 : S2.n = S1.n + 1 := by rw [← hS2]; simp only [go_sem]
              have c2 : S2.cells S1.n = some [.sl [] 0 1 .nil, .int .i64 0] := by
                have hnm' : ¬ S1.n = D.begun.m := fun e => hnm e.symm
                rw [← hS2]; simp only [St.cells, St.set_hp, hnm', if_false, St.add_hp, if_true]
              have i2 : S2.cells i = some D.begun.cells := k2.cells d1.head d1.lt him
              have m2 : S2.hp D.begun.m = some (.map (D.begun.ents.map Ent.cell ++ [(.str (mkS s), .ptr (some (S1.n, 0)), D.begun.c)]) (D.begun.c + 1)) := by rw [← hS2]; simp only [St.set_hp, if_true]
              clear hS2
              have kS : Keeps (fun j => j = i ∨ j = D.m) S S2 := (k1.mono fun _ _ e => .inl e).trans k2 fun _ _ e => .inr e
              have kO : Keeps (ownD i D) S S2 := kS.mono fun j _ e => e.elim .inl fun e => .inr (.inl e)
              simp only [go_sem, f0, f1, f2, c2]
              refine wi_append (n := 0) (cs := []) (t := .nil) (m := p.length) (xs := p.map u8V) (by simp only [go_sem]) (by simp only [go_sem, f2]; exact hp.elems _ kO) (by simp) (by simp [roomOk]; have h2 := h.wf.used; have h3 := h.wf.fits; have h4 := h.wf.room; simp only [Dk.abs] at hcf; omega) trivial (fun _ => ⟨rfl, rfl⟩) fun t' S3 k3 ht3 hn3 hz => ?_
              rw [tokOwn_nil] at k3
              have c3 := k3.cells c2 (by omega) id
              have i3 := k3.cells i2 (k2.lt d1.lt) id
              have m3 := hp_keep m2 k3 (k2.lt d1.mlt) id
              have hni' : ¬ S1.n = i := fun e => hni e.symm
              have hw : IntKind.i64.wrap (D.begun.used + (p.length : Int)) = D.used + p.length := by
                have h2 := h.wf.used; have h3 := h.wf.fits; have h4 := h.wf.room
                exact w64 (by show -9223372036854775808 ≤ D.used + (p.length : Int); omega) (by show D.used + (p.length : Int) < _; omega)
              simp only [go_sem, f0, f2, c3, i3, hni, hni', Dk.cells, hL, hw]
              generalize hS5 : (S3.set S1.n (.cells [.sl (p.map u8V) p.length 1 t', .int .i64 0])).set i (.cells [.map (some D.begun.m), .int .i64 D.begun.room, .int .i64 (D.used + p.length), .int .i64 D.begun.ops, .int .i64 D.begun.arm, .bool D.begun.off]) = S5
              have k5 : Keeps (fun j => j = S1.n ∨ j = i) S3 S5 := hS5 ▸ ((Keeps.refl (fun j => j = S1.n ∨ j = i) S3).set (i := S1.n) (.inl (.inl rfl)) _).set (i := i) (.inl (.inr rfl)) _
              have c5 : S5.cells S1.n = some [.sl (p.map u8V) p.length 1 t', .int .i64 0] := by
                rw [← hS5]; simp only [cells_setc, hni', if_false, if_true]
              have i5 : S5.cells i = some [.map (some D.begun.m), .int .i64 D.begun.room, .int .i64 (D.used + p.length), .int .i64 D.begun.ops, .int .i64 D.begun.arm, .bool D.begun.off] := by
                rw [← hS5]; simp only [cells_setc, if_true]
              have m5 := hp_keep m3 k5 (k3.lt (k2.lt d1.mlt)) (fun e => e.elim hnm fun e => him e.symm)
              clear hS5
              have kA : Keeps (fun j => j = i ∨ j = D.m) S S5 := (kS.trans (k3.mono (o' := fun j => j = i ∨ j = D.m) fun _ _ e => e.elim) fun _ _ e => e).trans k5 fun j hj e => by
                rcases e with e | e
                · have := k1.n; omega
                · exact .inl e
              have hE : EntAt S5 ⟨s, p, 0, S1.n, D.c, t'⟩ := ⟨c5, k5.lt (k3.lt (show S1.n < S2.n by omega)), ht3.keep k5 fun j hj e => by
                rcases e with e | e
                · subst e; exact tok_cells ht3 (hp_cells c3) (by intro x; cases x) hj
                · subst e; exact tok_cells ht3 (hp_cells i3) (by intro x; cases x) hj, fun e => List.eq_nil_of_length_eq_zero (hz e).1⟩
              have hwf : ({ D.begun with c := D.c + 1, ents := D.ents ++ [⟨s, p, 0, S1.n, D.c, t'⟩], used := D.used + p.length } : Dk).Wf := by
                have h2 := h.wf.used; have h3 := h.wf.fits; have h4 := h.wf.room
                simp only [Dk.abs] at hcf
                refine ⟨?_, ?_, h4, fun e he => ?_, fun e he => ?_⟩
                · show D.used + (p.length : Int) = _
                  simp [sumLen]; simp [sumLen] at h2; omega
                · show D.used + (p.length : Int) ≤ D.room
                  omega
                · rcases List.mem_append.1 he with he | he
                  · exact h.wf.sure e he
                  · simp at he; subst he; simp
                · rcases List.mem_append.1 he with he | he
                  · exact h.wf.names e he
                  · simp at he; subst he; exact hn
              obtain ⟨dA, oA⟩ := h.more (e' := ⟨s, p, 0, S1.n, D.c, t'⟩) (D' := { D.begun with c := D.c + 1, ents := D.ents ++ [⟨s, p, 0, S1.n, D.c, t'⟩], used := D.used + p.length }) kA i5 m5 rfl rfl rfl hno k1.n rfl hE (fun j hj => by have := hn3 j hj; have := k1.n; omega) hwf
              have fin := hQ S5 _ dA (by
                simp only [Dk.abs, Dk.begun, DS.begun, Option.map_none, Option.getD_none, List.nil_append]
                rw [← putF_none (e' := ⟨s, p, 0, S1.n, D.c, t'⟩) rfl hno]; rfl) (kA.mono fun j _ e => e.elim .inl fun e => .inr (.inl e)) oA
              have hob : D.abs.begun.off = D.begun.off := rfl
              rw [hob] at fin
              refine wc_ite (b := D.begun.off) (by simp only [go_sem]) (fun hc => ?_) (fun hc => ?_)
              · simp only [go_sem]
                rw [if_pos hc] at fin
                exact fin
              · simp only [go_sem]
                rw [if_neg (by rw [hc]; simp)] at fin
                exact fin
            | some e =>
              obtain ⟨a, b, he, hsn, ha⟩ := hx1 e rfl
              have hem : e ∈ D.ents := by rw [he]; simp
              have hE1 := d1.ents e hem
              have hif : ¬ i = e.f := h.ne_f hem
              have hif' : ¬ e.f = i := fun e' => hif e'.symm
              simp only [go_sem, f0, f1, f2, f10, entPtr_some, entPtr_none]
              refine wc_ite (b := false) (by simp only [go_sem] <;> rfl) (fun h => by cases h) (fun _ => ?_)
              simp only [go_sem, f0, f1, f2, f10, entPtr_some, entPtr_none, hE1.cells]
              have h2 := h.wf.used; have h3 := h.wf.fits; have h4 := h.wf.room
              have hle := sumLen_mem hem
              have kO : Keeps (ownD i D) S S1 := k1.mono fun _ _ e => .inl e
              refine wi_append (n := e.p.length) (cs := e.p.map u8V) (t := e.t) (m := p.length) (xs := p.map u8V) (by simp only [go_sem]) (by simp only [go_sem, f2]; exact hp.elems _ kO) (by simp) (by simp [roomOk]; simp only [Dk.abs] at hcf; omega) hE1.tok (fun ht => by rw [hE1.nil ht]; exact ⟨rfl, rfl⟩) fun t' S3 k3 ht3 hn3 hz => ?_
              have c3 := k3.cells hE1.cells hE1.lt (fun hj => tok_cells hE1.tok (hp_cells hE1.cells) (by intro x; cases x) hj)
              have i3 := k3.cells d1.head d1.lt (fun hj => tok_cells hE1.tok (hp_cells d1.head) (by intro x; cases x) hj)
              have hw : IntKind.i64.wrap (D.begun.used + (p.length : Int)) = D.used + p.length := by
                exact w64 (by show -9223372036854775808 ≤ D.used + (p.length : Int); omega) (by show D.used + (p.length : Int) < _; omega)
              simp only [go_sem, f0, f2, c3, i3, hif, hif', Dk.cells, hL, hw, f10, entPtr_some]
              have hcat : e.p.map u8V ++ p.map u8V = (e.p ++ p).map u8V := (List.map_append ..).symm
              have hlen : e.p.length + p.length = (e.p ++ p).length := (List.length_append ..).symm
              rw [hcat, hlen]
              generalize hS5 : (S3.set e.f (.cells [.sl ((e.p ++ p).map u8V) (e.p ++ p).length 1 t', .int .i64 e.sure])).set i (.cells [.map (some D.begun.m), .int .i64 D.begun.room, .int .i64 (D.used + p.length), .int .i64 D.begun.ops, .int .i64 D.begun.arm, .bool D.begun.off]) = S5
              have k5 : Keeps (fun j => j = e.f ∨ j = i) S3 S5 := hS5 ▸ ((Keeps.refl (fun j => j = e.f ∨ j = i) S3).set (i := e.f) (.inl (.inl rfl)) _).set (i := i) (.inl (.inr rfl)) _
              have c5 : S5.cells e.f = some [.sl ((e.p ++ p).map u8V) (e.p ++ p).length 1 t', .int .i64 e.sure] := by
                rw [← hS5]; simp only [cells_setc, hif', if_false, if_true]
              have i5 : S5.cells i = some [.map (some D.begun.m), .int .i64 D.begun.room, .int .i64 (D.used + p.length), .int .i64 D.begun.ops, .int .i64 D.begun.arm, .bool D.begun.off] := by
                rw [← hS5]; simp only [cells_setc, if_true]
              clear hS5
              have kB : Keeps (fun j => j = i ∨ j = e.f ∨ e.t = .at j) S1 S5 := (k3.mono (o' := fun j => j = i ∨ j = e.f ∨ e.t = .at j) fun _ _ h => .inr (.inr h)).trans k5 fun j _ h => h.elim (fun h => .inr (.inl h)) .inl
              have kA : Keeps (fun j => j = i ∨ j = e.f ∨ e.t = .at j) S S5 := (k1.mono fun _ _ h => .inl h).trans kB fun _ _ h => h
              have hE : EntAt S5 { e with p := e.p ++ p, t := t' } := ⟨c5, k5.lt (k3.lt hE1.lt), ht3.keep k5 fun j hj e' => by
                rcases e' with e' | e'
                · subst e'; exact tok_cells ht3 (hp_cells c3) (by intro x; cases x) hj
                · subst e'; exact tok_cells ht3 (hp_cells i3) (by intro x; cases x) hj, fun e' => by
                  obtain ⟨z1, z2⟩ := hz e'
                  show e.p ++ p = []
                  rw [hE1.nil z2, List.eq_nil_of_length_eq_zero z1]; rfl⟩
              have hwf : ({ D.begun with ents := a ++ { e with p := e.p ++ p, t := t' } :: b, used := D.used + p.length } : Dk).Wf := by
                simp only [Dk.abs] at hcf
                refine ⟨?_, ?_, h4, fun x hx => ?_, fun x hx => ?_⟩
                · show D.used + (p.length : Int) = _
                  rw [he, sumLen_mid] at h2
                  show _ = ((sumLen (a ++ { e with p := e.p ++ p, t := t' } :: b) : Nat) : Int)
                  rw [sumLen_mid]
                  simp; omega
                · show D.used + (p.length : Int) ≤ D.room
                  omega
                · rcases List.mem_append.1 hx with hx | hx
                  · exact h.wf.sure x (by rw [he]; simp [hx])
                  · rcases List.mem_cons.1 hx with rfl | hx
                    · have := h.wf.sure e hem; simp; omega
                    · exact h.wf.sure x (by rw [he]; simp [hx])
                · rcases List.mem_append.1 hx with hx | hx
                  · exact h.wf.names x (by rw [he]; simp [hx])
                  · rcases List.mem_cons.1 hx with rfl | hx
                    · exact h.wf.names e hem
                    · exact h.wf.names x (by rw [he]; simp [hx])
              obtain ⟨dA, oA⟩ := h.repl (e' := { e with p := e.p ++ p, t := t' }) (D' := { D.begun with ents := a ++ { e with p := e.p ++ p, t := t' } :: b, used := D.used + p.length }) he kA (fun _ h => h) i5 rfl rfl rfl rfl rfl rfl hE (fun j hj => .inl (by have := hn3 j hj; have := k1.n; omega)) hwf
              have fin := hQ S5 _ dA (by
                simp only [Dk.abs, Dk.begun, DS.begun, Option.map_some, Option.getD_some]
                have := putF_some (s := s) (e := e) (e' := { e with p := e.p ++ p, t := t' }) (b := b) hsn hsn ha
                rw [← he] at this
                rw [← this]; rfl) (kA.mono fun j _ e' => by
                  rcases e' with e' | e' | e'
                  · exact .inl e'
                  · exact .inr (.inr ⟨e, hem, .inl e'⟩)
                  · exact .inr (.inr ⟨e, hem, .inr e'⟩)) oA
              have hob : D.abs.begun.off = D.begun.off := rfl
              rw [hob] at fin
              refine wc_ite (b := D.begun.off) (by simp only [go_sem]) (fun hc => ?_) (fun hc => ?_)
              · simp only [go_sem]
                rw [if_pos hc] at fin
                exact fin
              · simp only [go_sem]
                rw [if_neg (by rw [hc]; simp)] at fin
                exact fin
        have hx : (fresh = true ∧ ∃ e, x = some e) ∨ (fresh = true → x = none) := by
          cases x with
          | none => exact .inr fun _ => rfl
          | some e => cases fresh with
            | true => exact .inl ⟨rfl, e, rfl⟩
            | false => exact .inr fun h => by cases h
        rcases hx with ⟨hfr, e, rfl⟩ | hx
        · subst hfr
          simp only [go_sem, f0, f1, f2, f3, f10, entPtr_some, entPtr_none]
          refine wc_ite (b := true) (by simp only [go_sem] <;> rfl) (fun _ => ?_) (fun h => by cases h)
          simp only [go_sem]
          exact stay 9 (grow_exists hn hoff ⟨rfl, by rw [hfind]; rfl⟩)
        · cases fresh with
          | false =>
            simp only [go_sem, f0, f1, f2, f3, f10, entPtr_some, entPtr_none]
            refine wc_ite (b := false) (by simp only [go_sem] <;> rfl) (fun h => by cases h) (fun _ => ?_)
            exact tail hx _ (by simp only [go_sem, f0]) (by simp only [go_sem, f1]) (by simp only [go_sem, f2]) (by simp only [go_sem, f10])
          | true =>
            have hx' := hx rfl
            subst hx'
            simp only [go_sem, f0, f1, f2, f3, f10, entPtr_some, entPtr_none]
            refine wc_ite (b := false) (by simp only [go_sem] <;> rfl) (fun h => by cases h) (fun _ => ?_)
            exact tail hx _ (by simp only [go_sem, f0]) (by simp only [go_sem, f1]) (by simp only [go_sem, f2]) (by simp only [go_sem, f10])
    rcases find_cases s D.ents with ⟨a, e, b, he, hsn, ha⟩ | hno
    · have hf := findE_some (b := b) hsn a 0 ha
      rw [← he] at hf
      simp only [go_sem, h1, hm, hf, Dk.cells]
      refine main (some e) (fun e' h' => by injection h' with h'; subst h'; exact ⟨a, b, he, hsn, ha⟩) (fun h' => by cases h') _ ?_ ?_ ?_ ?_ ?_ <;> simp only [go_sem, entPtr_some, entPtr_none]
    · have hf := findE_none D.ents 0 hno
      simp only [go_sem, h1, hm, hf, Dk.cells]
      refine main none (fun e' h' => by cases h') (fun _ => hno) _ ?_ ?_ ?_ ?_ ?_ <;> simp only [go_sem, entPtr_some, entPtr_none]
  · simp only [go_sem]
    refine wc_ite (b := true) (by simp only [go_sem] <;> rfl) (fun _ => ?_) (fun h => by cases h)
    simp only [go_sem]
    exact stay 1 (by simp [DS.grow, hn])
theorem append_runs {w0 : World} {S : St} {Q : AEnd → St → Prop} {i : Nat} {D : Dk} {s p : List UInt8} {v : V} (h : DiskAt S i D) (hs : s.length ≤ 1000000000000000) (hp : BytesIn S (ownD i D) v p) (hpl : p.length ≤ 1000000000000000)
  (hQ : ∀ S' D', DiskAt S' i D' → D'.abs = (D.abs.grow s p false).2 → Keeps (ownD i D) S S' → (∀ j, ownD i D' j → ownD i D j ∨ S.n ≤ j) → Q (.ret (.int .i64 (D.abs.grow s p false).1)) S') :
  RSim Try.prog w0 n_disk_Disk_Append [.ptr (some (i, 0)), .str (mkS s), v] S Q := by
 refine RSim.run mixed k_disk_Disk_Append ?_ (by simp)
 simp only [b_disk_Disk_Append, go_sem]
 refine wi_call ?_
 simp only [go_sem]
 refine grow_runs h hs hp hpl fun S' D' h1 h2 h3 h4 => ?_
 simp only [go_sem]
 exact hQ S' D' h1 h2 h3 h4
theorem put_runs {w0 : World} {S : St} {Q : AEnd → St → Prop} {i : Nat} {D : Dk} {s p : List UInt8} {v : V} (h : DiskAt S i D) (hs : s.length ≤ 1000000000000000) (hp : BytesIn S (ownD i D) v p) (hpl : p.length ≤ 1000000000000000)
  (hQ : ∀ S' D', DiskAt S' i D' → D'.abs = (D.abs.grow s p true).2 → Keeps (ownD i D) S S' → (∀ j, ownD i D' j → ownD i D j ∨ S.n ≤ j) → Q (.ret (.int .i64 (D.abs.grow s p true).1)) S') :
  RSim Try.prog w0 n_disk_Disk_Put [.ptr (some (i, 0)), .str (mkS s), v] S Q := by
 refine RSim.run mixed k_disk_Disk_Put ?_ (by simp)
 simp only [b_disk_Disk_Put, go_sem]
 refine wi_call ?_
 simp only [go_sem]
 refine grow_runs h hs hp hpl fun S' D' h1 h2 h3 h4 => ?_
 simp only [go_sem]
 exact hQ S' D' h1 h2 h3 h4
theorem grow_nil {w0 : World} {S : St} {Q : AEnd → St → Prop} {s : List UInt8} {v : V} {fresh : Bool} (hQ : Q (.ret (.int .i64 8)) S) : RSim Try.prog w0 n_disk_Disk_grow [.ptr none, .str (mkS s), v, .bool fresh] S Q := by
 refine RSim.run mixed k_disk_Disk_grow ?_ (by simp)
 simp only [b_disk_Disk_grow, go_sem]
 refine wi_call ?_
 simp only [go_sem]
 refine look_nil ?_
 simp only [go_sem]
 refine wc_ite (b := true) (by simp only [go_sem] <;> rfl) (fun _ => ?_) (fun h => by cases h)
 simp only [go_sem]
 exact hQ
theorem append_nil {w0 : World} {S : St} {Q : AEnd → St → Prop} {s : List UInt8} {v : V} (hQ : Q (.ret (.int .i64 8)) S) : RSim Try.prog w0 n_disk_Disk_Append [.ptr none, .str (mkS s), v] S Q := by
 refine RSim.run mixed k_disk_Disk_Append ?_ (by simp)
 simp only [b_disk_Disk_Append, go_sem]
 refine wi_call ?_
 simp only [go_sem]
 refine grow_nil ?_
 simp only [go_sem]
 exact hQ
end Go.VM
namespace Go.VM
open Go Go.RowKit Go.Proofs
theorem wi_callV {cl : Cl} {fr : Fr} {S : St} {K : Fr → St → Prop} {Kp : V → St → Prop} {dst : Option Nat} {x : Arg} {f : FuncId} {pre cap : List V} {args : List Arg} {r : List Item} (hx : x.ev fr = .func f pre cap)
  (h : cl f (pre ++ args.map (Arg.ev fr) ++ cap) S (retQ (fun v S' => wItems cl r (fr.put dst v) S' K Kp) Kp)) : wItems cl (.run ⟨dst, none, .e (.callV x args)⟩ :: r) fr S K Kp := by
 refine wi_e ?_
 simp only [wE, hx]
 have e : retQ (fun v S' => wItems cl r (fr.put dst v) S' K Kp) Kp = (fun | .ret v, S' => wItems cl r (fr.put dst v) S' K Kp | .pan v, S' => Kp v S') := by
  funext e S'
  cases e <;> rfl
 rw [e] at h
 exact h
theorem change_runs {w0 : World} {S : St} {Q : AEnd → St → Prop} {i : Nat} {D : Dk} {s : List UInt8} {g : FuncId} {cap : List V} (h : DiskAt S i D) (hs : s.length ≤ 1000000000000000)
  (hQ' : (nameOk s = false ∨ D.off = true ∨ ∀ x ∈ D.ents, x.name ≠ s) → Q (.ret (.int .i64 (D.thereE s))) S)
  (hQo : ∀ a e b S1, nameOk s = true → D.off = false → D.ents = a ++ e :: b → e.name = s → (∀ x ∈ a, x.name ≠ s) → D.begun.off = true → DiskAt S1 i D.begun → Keeps (fun j => j = i) S S1 → Q (.ret (.int .i64 10)) S1)
  (hQ : ∀ a e b S1, nameOk s = true → D.off = false → D.ents = a ++ e :: b → e.name = s → (∀ x ∈ a, x.name ≠ s) → D.begun.off = false → DiskAt S1 i D.begun → Keeps (fun j => j = i) S S1 →
   RSim Try.prog w0 g ([.ptr (some (e.f, 0))] ++ cap) S1 (retQ (fun _ S' => Q (.ret (.int .i64 0)) S') fun v S' => Q (.pan v) S')) :
  RSim Try.prog w0 n_disk_Disk_change [.ptr (some (i, 0)), .str (mkS s), .func g [] cap] S Q := by
 have h1 := h.head
 have hm := h.map
 refine RSim.run mixed k_disk_Disk_change ?_ (by simp)
 simp only [b_disk_Disk_change, go_sem]
 refine wi_call ?_
 simp only [go_sem]
 refine look1_runs hs (fun hn => ?_) (fun hn => ?_)
 ·simp only [Dk.thereE, hn, if_false, reduceCtorEq] at hQ'
  simp only [go_sem]
  refine wc_ite (b := false) (by simp only [go_sem] <;> rfl) (fun h => by cases h) (fun _ => ?_)
  simp only [go_sem, h1, Dk.cells]
  refine wc_ite (b := D.off) (by simp only [go_sem]) (fun hc => ?_) (fun hc => ?_)
  ·simp only [go_sem]
   rw [if_pos hc] at hQ'
   exact hQ' (.inr (.inl hc))
  ·have hoff : D.off = false := hc
   rw [if_neg (by rw [hc]; simp)] at hQ'
   rcases find_cases s D.ents with ⟨a, e, b, he, hsn, ha⟩ | hno
   ·have hf := findE_some (b := b) hsn a 0 ha
    rw [← he] at hf
    simp only [go_sem, h1, hm, hf, Dk.cells]
    refine wc_ite (b := false) (by simp only [go_sem] <;> rfl) (fun h => by cases h) (fun _ => ?_)
    simp only [go_sem]
    refine wi_call ?_
    simp only [go_sem]
    refine begin_runs h hoff fun S1 d1 k1 => ?_
    simp only [go_sem]
    refine wc_ite (b := D.begun.off) (by simp only [go_sem]) (fun hc => ?_) (fun hc => ?_)
    ·simp only [go_sem]
     exact hQo a e b S1 hn hoff he hsn ha hc d1 k1
    ·simp only [go_sem]
     refine wi_callV (f := g) (pre := []) (cap := cap) (by simp only [go_sem]) ?_
     simp only [go_sem]
     exact hQ a e b S1 hn hoff he hsn ha hc d1 k1
   ·have hf := findE_none D.ents 0 hno
    simp only [go_sem, h1, hm, hf, Dk.cells]
    refine wc_ite (b := true) (by simp only [go_sem] <;> rfl) (fun _ => ?_) (fun h => by cases h)
    simp only [go_sem]
    exact hQ' (.inr (.inr hno))
 ·simp only [Dk.thereE, hn, if_true] at hQ'
  simp only [go_sem]
  refine wc_ite (b := true) (by simp only [go_sem] <;> rfl) (fun _ => ?_) (fun h => by cases h)
  simp only [go_sem]
  exact hQ' (.inl trivial)
def DS.change (D : DS) (s : List UInt8) (F : DS → File → DS) : Int × DS :=
 if nameOk s = false then (1, D) else if D.off = true then (10, D) else
 match findF s D.files with
 | none => (8, D)
 | some x => if D.begun.off = true then (10, D.begun) else (0, F D.begun x)
def DS.sync (D : DS) (s : List UInt8) : Int × DS := D.change s fun D x => { D with files := putF { x with sure := x.p.length } D.files }
def DS.remove (D : DS) (s : List UInt8) : Int × DS := D.change s fun D x => { D with files := delF s D.files, used := D.used - x.p.length }
theorem change_no {D : Dk} {s : List UInt8} (F : DS → File → DS) (h : nameOk s = false ∨ D.off = true ∨ ∀ x ∈ D.ents, x.name ≠ s) : D.abs.change s F = (D.thereE s, D.abs) := by
 unfold DS.change Dk.thereE
 by_cases h1 : nameOk s = false
 ·rw [if_pos h1, if_pos h1]
 ·rw [if_neg h1, if_neg h1]
  by_cases h2 : D.off = true
  ·rw [if_pos (show D.abs.off = true from h2), if_pos h2]
  ·rw [if_neg (show ¬ D.abs.off = true from h2), if_neg h2]
   have h3 : ∀ x ∈ D.ents, x.name ≠ s := by
    rcases h with h | h | h
    ·exact absurd h h1
    ·exact absurd h h2
    ·exact h
   have : findF s D.abs.files = none := findF_none h3
   rw [this]
theorem change_yes {D : Dk} {s : List UInt8} {a b : List Ent} {e : Ent} (F : DS → File → DS) (h1 : nameOk s = true) (h2 : D.off = false) (he : D.ents = a ++ e :: b) (hs : e.name = s) (ha : ∀ x ∈ a, x.name ≠ s) :
  D.abs.change s F = if D.begun.off = true then (10, D.abs.begun) else (0, F D.abs.begun e.file) := by
 unfold DS.change
 rw [if_neg (by simp [h1]), if_neg (show ¬ D.abs.off = true by simp [Dk.abs, h2])]
 have : findF s D.abs.files = some e.file := by
  simp only [Dk.abs, he]; exact findF_some hs ha
 rw [this]
 rfl
theorem sync_runs {w0 : World} {S : St} {Q : AEnd → St → Prop} {i : Nat} {D : Dk} {s : List UInt8} (h : DiskAt S i D) (hs : s.length ≤ 1000000000000000)
  (hQ : ∀ S' D', DiskAt S' i D' → D'.abs = (D.abs.sync s).2 → Keeps (ownD i D) S S' → (∀ j, ownD i D' j → ownD i D j ∨ S.n ≤ j) → Q (.ret (.int .i64 (D.abs.sync s).1)) S') :
  RSim Try.prog w0 n_disk_Disk_Sync [.ptr (some (i, 0)), .str (mkS s)] S Q := by
 refine RSim.run mixed k_disk_Disk_Sync ?_ (by simp)
 simp only [b_disk_Disk_Sync, go_sem]
 refine wi_call ?_
 simp only [go_sem]
 refine change_runs h hs (fun hno => ?_) (fun a e b S1 h1 h2 he hsn ha ho d1 k1 => ?_) (fun a e b S1 h1 h2 he hsn ha ho d1 k1 => ?_)
 ·simp only [go_sem]
  have e := change_no (fun D x => { D with files := putF { x with sure := x.p.length } D.files }) hno
  unfold DS.sync at hQ
  rw [e] at hQ
  exact hQ S D h rfl (Keeps.refl _ _) fun j hj => .inl hj
 ·simp only [go_sem]
  have e' := change_yes (fun D x => { D with files := putF { x with sure := x.p.length } D.files }) h1 h2 he hsn ha
  unfold DS.sync at hQ
  rw [e', if_pos ho] at hQ
  exact hQ S1 _ d1 rfl (k1.mono fun _ _ e => .inl e) fun j hj => .inl hj
 ·have e' := change_yes (fun D x => { D with files := putF { x with sure := x.p.length } D.files }) h1 h2 he hsn ha
  unfold DS.sync at hQ
  rw [e', if_neg (by simp [ho])] at hQ
  have hem : e ∈ D.ents := by rw [he]; simp
  have hE1 := d1.ents e hem
  have hif : ¬ i = e.f := h.ne_f hem
  refine RSim.run mixed k_disk_Disk_Sync_1 ?_ (by simp)
  simp only [b_disk_Disk_Sync_1, go_sem, hE1.cells]
  have k2 : Keeps (fun j => j = e.f) S1 (S1.set e.f (.cells [.sl (e.p.map u8V) e.p.length 1 e.t, .int .i64 e.p.length])) := Keeps.set1 _ _ _
  have hE : EntAt (S1.set e.f (.cells [.sl (e.p.map u8V) e.p.length 1 e.t, .int .i64 e.p.length])) { e with sure := e.p.length } :=
   ⟨by rw [cells_setc, if_pos rfl], hE1.lt, hE1.tok.keep k2 fun j hj e' => by subst e'; exact tok_cells hE1.tok (hp_cells hE1.cells) (by intro x; cases x) hj, hE1.nil⟩
  have kA : Keeps (fun j => j = i ∨ j = e.f ∨ e.t = .at j) S _ := (k1.mono fun _ _ h => .inl h).trans (k2.mono (o' := fun j => j = i ∨ j = e.f ∨ e.t = .at j) fun _ _ h => .inr (.inl h)) fun _ _ h => h
  have kB : Keeps (fun j => j = i ∨ j = e.f ∨ e.t = .at j) S1 _ := k2.mono (o' := fun j => j = i ∨ j = e.f ∨ e.t = .at j) fun _ _ h => .inr (.inl h)
  obtain ⟨dA, oA⟩ := d1.repl (e' := { e with sure := e.p.length }) (D' := { D.begun with ents := a ++ { e with sure := e.p.length } :: b }) he kB (fun _ h => h) (k2.cells d1.head d1.lt hif) rfl rfl rfl rfl rfl rfl hE (fun j hj => .inr hj) (by
   refine ⟨?_, h.wf.fits, h.wf.room, fun x hx => ?_, fun x hx => ?_⟩
   ·show D.used = ((sumLen (a ++ { e with sure := e.p.length } :: b) : Nat) : Int)
    rw [h.wf.used, he, sumLen_mid, sumLen_mid]
   ·rcases List.mem_append.1 hx with hx | hx
    ·exact h.wf.sure x (by rw [he]; simp [hx])
    ·rcases List.mem_cons.1 hx with rfl | hx
     ·exact Nat.le_refl _
     ·exact h.wf.sure x (by rw [he]; simp [hx])
   ·rcases List.mem_append.1 hx with hx | hx
    ·exact h.wf.names x (by rw [he]; simp [hx])
    ·rcases List.mem_cons.1 hx with rfl | hx
     ·exact h.wf.names e hem
     ·exact h.wf.names x (by rw [he]; simp [hx]))
  refine hQ _ _ dA ?_ (kA.mono fun j _ e' => ?_) fun j hj => ?_
  ·simp only [Dk.abs, Dk.begun, DS.begun]
   have := putF_some (s := s) (e := e) (e' := { e with sure := e.p.length }) (b := b) hsn hsn ha
   rw [← he] at this
   rw [← this]; rfl
  ·rcases e' with e' | e' | e'
   ·exact .inl e'
   ·exact .inr (.inr ⟨e, hem, .inl e'⟩)
   ·exact .inr (.inr ⟨e, hem, .inr e'⟩)
  ·rcases oA j hj with h6 | h6
   ·exact .inl h6
   ·exact .inr (Nat.le_trans k1.n h6)
theorem DiskAt.reorg {S S' : St} {i : Nat} {D D' : Dk} (h : DiskAt S i D) (k : Keeps (fun j => j = i ∨ j = D.m) S S')
  (hh : S'.cells i = some D'.cells) (hm : S'.hp D.m = some (.map (D'.ents.map Ent.cell) D'.c)) (em : D'.m = D.m) (sub : ∀ x ∈ D'.ents, ∃ y ∈ D.ents, x.f = y.f ∧ x.p = y.p ∧ x.t = y.t ∧ x.sure = y.sure)
  (h1 : (D'.ents.map (·.name)).Nodup) (h2 : (D'.ents.map (·.f)).Nodup) (h3 : (D'.ents.map (·.born)).Nodup) (h4 : ∀ e ∈ D'.ents, e.born < D'.c) (h5 : D'.ents.Pairwise fun a b => ∀ k, a.t = .at k → b.t ≠ .at k) (hw : D'.Wf) :
  DiskAt S' i D' ∧ (∀ j, ownD i D' j → ownD i D j) := by
 refine ⟨⟨hh, k.lt h.lt, by rw [em]; exact hm, by rw [em]; exact k.lt h.mlt, fun x hx => ?_, h1, h2, h3, h4, h5, hw⟩, fun j hj => ?_⟩
 ·obtain ⟨y, hy, e1, e2, e3, e4⟩ := sub x hx
  have := (h.ents y hy).keep k (fun hj => hj.elim (fun h' => h.ne_f hy h'.symm) fun h' => h.ne_mf hy h'.symm) fun j hj hoj => by
   rcases hoj with h' | h'
   ·subst h'; exact tok_cells (h.ents y hy).tok (hp_cells h.head) (by intro x; cases x) hj
   ·subst h'; exact tok_cells (h.ents y hy).tok h.map (by intro x; cases x) hj
  exact ⟨by rw [e1, e2, e3, e4]; exact this.cells, by rw [e1]; exact this.lt, by rw [e3]; exact this.tok, by rw [e2, e3]; exact this.nil⟩
 ·rcases hj with rfl | rfl | ⟨x, hx, hj⟩
  ·exact .inl rfl
  ·exact .inr (.inl em)
  ·obtain ⟨y, hy, e1, e2, e3, e4⟩ := sub x hx
   exact .inr (.inr ⟨y, hy, by rw [e1, e3] at hj; exact hj⟩)
theorem eraseIdx_mid {α : Type} (a b : List α) (e : α) : (a ++ e :: b).eraseIdx (0 + a.length) = a ++ b := by
 rw [Nat.zero_add]
 induction a with
 | nil => rfl
 | cons x a ih => simp [ih]
theorem remove_runs {w0 : World} {S : St} {Q : AEnd → St → Prop} {i : Nat} {D : Dk} {s : List UInt8} (h : DiskAt S i D) (hs : s.length ≤ 1000000000000000)
  (hQ : ∀ S' D', DiskAt S' i D' → D'.abs = (D.abs.remove s).2 → Keeps (ownD i D) S S' → (∀ j, ownD i D' j → ownD i D j) → Q (.ret (.int .i64 (D.abs.remove s).1)) S') :
  RSim Try.prog w0 n_disk_Disk_Remove [.ptr (some (i, 0)), .str (mkS s)] S Q := by
 refine RSim.run mixed k_disk_Disk_Remove ?_ (by simp)
 simp only [b_disk_Disk_Remove, go_sem]
 have k0 : Keeps (fun _ => False) S ((S.add (.cells [.ptr (some (i, 0))])).add (.cells [.str (mkS s)])) := ((Keeps.refl _ S).add _).add _
 have b0 : ((S.add (.cells [.ptr (some (i, 0))])).add (.cells [.str (mkS s)])).cells S.n = some [.ptr (some (i, 0))] := by
  have : ¬ S.n = S.n + 1 := by omega
  simp only [go_sem, this]
 have b1 : ((S.add (.cells [.ptr (some (i, 0))])).add (.cells [.str (mkS s)])).cells (S.n + 1) = some [.str (mkS s)] := by simp only [go_sem]
 have n0 : ((S.add (.cells [.ptr (some (i, 0))])).add (.cells [.str (mkS s)])).n = S.n + 2 := rfl
 generalize (S.add (.cells [.ptr (some (i, 0))])).add (.cells [.str (mkS s)]) = S0 at k0 b0 b1 n0 ⊢
 refine wi_call ?_
 simp only [go_sem]
 have h0 := h.stay k0
 refine change_runs h0 hs (fun hno => ?_) (fun a e b S1 h1 h2 he hsn ha ho d1 k1 => ?_) (fun a e b S1 h1 h2 he hsn ha ho d1 k1 => ?_)
 ·simp only [go_sem]
  have e := change_no (fun D x => { D with files := delF s D.files, used := D.used - x.p.length }) hno
  unfold DS.remove at hQ
  rw [e] at hQ
  exact hQ S0 D h0 rfl (k0.mono fun _ _ e => e.elim) fun j hj => hj
 ·simp only [go_sem]
  have e' := change_yes (fun D x => { D with files := delF s D.files, used := D.used - x.p.length }) h1 h2 he hsn ha
  unfold DS.remove at hQ
  rw [e', if_pos ho] at hQ
  exact hQ S1 _ d1 rfl ((k0.mono (o' := ownD i D) fun _ _ e => e.elim).trans k1 fun _ _ e => .inl e) fun j hj => hj
 ·have e' := change_yes (fun D x => { D with files := delF s D.files, used := D.used - x.p.length }) h1 h2 he hsn ha
  unfold DS.remove at hQ
  rw [e', if_neg (by simp [ho])] at hQ
  have hem : e ∈ D.ents := by rw [he]; simp
  have hE1 := d1.ents e hem
  have hlt := h.lt
  have b0' := k1.cells b0 (by omega) (show ¬ S.n = i by omega)
  have b1' := k1.cells b1 (by omega) (show ¬ S.n + 1 = i by omega)
  have hi0 : ¬ S.n = i := by omega
  have hi1 : ¬ S.n + 1 = i := by omega
  have hm1 : ¬ D.begun.m = i := Ne.symm d1.ne_m
  have hf := findE_some (b := b) hsn a 0 ha
  rw [← he] at hf
  have hus := h.wf.used; have hfi := h.wf.fits; have hro := h.wf.room
  have hle := sumLen_mem hem
  have hw : IntKind.i64.wrap (D.begun.used - (e.p.length : Int)) = D.used - e.p.length :=
   w64 (by show -9223372036854775808 ≤ D.used - (e.p.length : Int); omega) (by show D.used - (e.p.length : Int) < _; omega)
  have hfd : findE .str (.str (mkS s)) (D.begun.ents.map Ent.cell) 0 = some (some (0 + a.length, .ptr (some (e.f, 0)))) := hf
  refine RSim.run mixed k_disk_Disk_Remove_1 ?_ (by simp)
  simp only [b_disk_Disk_Remove_1, go_sem, b0', b1', d1.head, Dk.cells, hE1.cells, hi0, hi1, hw]
  refine wi_e ?_
  simp only [wE]
  simp only [go_sem, d1.map, hm1, hfd]
  have hers : (D.begun.ents.map Ent.cell).eraseIdx a.length = (a ++ b).map Ent.cell := by
   show (D.ents.map Ent.cell).eraseIdx a.length = _
   have := eraseIdx_mid (a.map Ent.cell) (b.map Ent.cell) e.cell
   rw [List.length_map, Nat.zero_add] at this
   rw [he, List.map_append, List.map_cons, this, List.map_append]
  rw [hers]
  generalize hS2 : (S1.set i (.cells [.map (some D.begun.m), .int .i64 D.begun.room, .int .i64 (D.used - e.p.length), .int .i64 D.begun.ops, .int .i64 D.begun.arm, .bool D.begun.off])).set D.begun.m (.map ((a ++ b).map Ent.cell) D.begun.c) = S2
  have k2 : Keeps (fun j => j = i ∨ j = D.begun.m) S1 S2 := hS2 ▸ ((Keeps.refl (fun j => j = i ∨ j = D.begun.m) S1).set (i := i) (.inl (.inl rfl)) _).set (i := D.begun.m) (.inl (.inr rfl)) _
  have i2 : S2.cells i = some [.map (some D.begun.m), .int .i64 D.begun.room, .int .i64 (D.used - e.p.length), .int .i64 D.begun.ops, .int .i64 D.begun.arm, .bool D.begun.off] := by
   have : ¬ i = D.begun.m := d1.ne_m
   rw [← hS2]; simp only [St.cells, St.set_hp, this, if_false, if_true]
  have m2 : S2.hp D.begun.m = some (.map ((a ++ b).map Ent.cell) D.begun.c) := by rw [← hS2]; simp only [St.set_hp, if_true]
  clear hS2
  have hsub : (a ++ b).Sublist D.ents := by rw [he]; exact List.Sublist.append (List.Sublist.refl a) (List.sublist_cons_self e b)
  obtain ⟨dA, oA⟩ := d1.reorg (D' := { D.begun with ents := a ++ b, used := D.used - e.p.length }) k2 i2 m2 rfl (fun x hx => ⟨x, hsub.subset hx, rfl, rfl, rfl, rfl⟩) (h.names.sublist (hsub.map _)) (h.objs.sublist (hsub.map _)) (h.born.sublist (hsub.map _)) (fun x hx => h.clock x (hsub.subset hx)) (h.toks.sublist hsub) (by
   refine ⟨?_, ?_, hro, fun x hx => h.wf.sure x (hsub.subset hx), fun x hx => h.wf.names x (hsub.subset hx)⟩
   ·show D.used - (e.p.length : Int) = ((sumLen (a ++ b) : Nat) : Int)
    rw [he, sumLen_mid] at hus
    have : sumLen (a ++ b) = sumLen a + sumLen b := by simp [sumLen]
    omega
   ·show D.used - (e.p.length : Int) ≤ D.room
    omega)
  refine hQ _ _ dA ?_ (((k0.mono (o' := ownD i D) fun _ _ e => e.elim).trans k1 fun _ _ e => .inl e).trans k2 fun j _ e => e.elim .inl fun e => .inr (.inl e)) oA
  simp only [Dk.abs, Dk.begun, DS.begun]
  have := delF_some (s := s) (e := e) (b := b) hsn ha
  rw [← he] at this
  rw [← this]; rfl
end Go.VM
namespace Go.VM
open Go Go.RowKit Go.Proofs
def renF (s t : List UInt8) : DS → File → DS := fun D x => { D with files := putF { x with name := t } (delF s D.files), used := match findF t (delF s D.files) with | some y => D.used - y.p.length | none => D.used }
def DS.rename (D : DS) (s t : List UInt8) : Int × DS :=
 if nameOk s = false ∨ nameOk t = false then (1, D) else if s = t then (1, D) else
 if D.off = false ∧ (∃ x, findF s D.files = some x ∧ x.sure < x.p.length) then (12, D) else D.change s (renF s t)
theorem lookE_two (s t : List UInt8) : lookE [s, t] = if nameOk s = false ∨ nameOk t = false then 1 else 0 := by
 simp only [lookE, List.all_cons, List.all_nil, Bool.and_true]
 cases nameOk s <;> cases nameOk t <;> rfl
theorem modify_mid {α : Type} (a b : List α) (e : α) (f : α → α) : (a ++ e :: b).modify a.length f = a ++ f e :: b := by
 induction a with
 | nil => rfl
 | cons x a ih => simp [ih]
theorem sumLen_app (a b : List Ent) : sumLen (a ++ b) = sumLen a + sumLen b := by simp [sumLen]
theorem toks_symm {l l' : List Ent} (h : l.Perm l') (hl : l.Pairwise fun a b => ∀ k, a.t = .at k → b.t ≠ .at k) : l'.Pairwise fun a b => ∀ k, a.t = .at k → b.t ≠ .at k :=
 (h.pairwise_iff fun {x y} hxy k hy hx => hxy k hx hy).1 hl
theorem renFn_runs {w0 : World} {S : St} {Q : AEnd → St → Prop} {i B : Nat} {D : Dk} {s t : List UInt8} {a b : List Ent} {e : Ent} (h : DiskAt S i D) (he : D.ents = a ++ e :: b) (hsn : e.name = s) (ha : ∀ x ∈ a, x.name ≠ s) (hst : s ≠ t) (ht : nameOk t = true)
  (b0 : S.cells B = some [.ptr (some (i, 0))]) (b1 : S.cells (B + 1) = some [.str (mkS s)]) (b2 : S.cells (B + 2) = some [.str (mkS t)]) (hB : B + 2 < S.n) (hBi : ∀ j, j = B ∨ j = B + 1 ∨ j = B + 2 → j ≠ i)
  (hQ : ∀ S' D', DiskAt S' i D' → D'.abs = renF s t D.abs e.file → Keeps (fun j => j = i ∨ j = D.m) S S' → (∀ j, ownD i D' j → ownD i D j) → Q (.ret (.tup [])) S') :
  RSim Try.prog w0 n_disk_Disk_Rename_1 [.ptr (some (e.f, 0)), .ptr (some (B, 0)), .ptr (some (B + 1, 0)), .ptr (some (B + 2, 0))] S Q := by
 have hem : e ∈ D.ents := by rw [he]; simp
 have hE1 := h.ents e hem
 have hmi : ¬ D.m = i := Ne.symm h.ne_m
 have him : ¬ i = D.m := h.ne_m
 have hBm : ∀ j cs, S.cells j = some cs → ¬ j = D.m := fun j cs hc e => by
  have h1 := hp_cells hc
  rw [e, h.map] at h1
  cases h1
 have m0 := hBm _ _ b0
 have m1 := hBm _ _ b1
 have m2 := hBm _ _ b2
 have i0 := hBi B (.inl rfl)
 have i1 := hBi (B + 1) (.inr (.inl rfl))
 have i2 := hBi (B + 2) (.inr (.inr rfl))
 have hf := findE_some (b := b) hsn a 0 ha
 rw [← he] at hf
 have hers : (D.ents.map Ent.cell).eraseIdx a.length = (a ++ b).map Ent.cell := by
  have := eraseIdx_mid (a.map Ent.cell) (b.map Ent.cell) e.cell
  rw [List.length_map, Nat.zero_add] at this
  rw [he, List.map_append, List.map_cons, this, List.map_append]
 have hus := h.wf.used; have hfi := h.wf.fits; have hro := h.wf.room
 refine RSim.run mixed k_disk_Disk_Rename_1 ?_ (by simp)
 simp only [b_disk_Disk_Rename_1, go_sem, b0, b1, h.head, Dk.cells]
 refine wi_e ?_
 simp only [wE]
 simp only [go_sem, h.map, hf, hers]
 have cellsM : ∀ (S : St) (m : Nat) (es : List (V × V × Nat)) (c j : Nat), ¬ j = m → (S.set m (.map es c)).cells j = S.cells j := fun S m es c j hj => by
  simp only [St.cells, St.set_hp, hj, if_false]
 have e0 := cellsM S D.m ((a ++ b).map Ent.cell) D.c B m0
 have e2 := cellsM S D.m ((a ++ b).map Ent.cell) D.c (B + 2) m2
 have ei := cellsM S D.m ((a ++ b).map Ent.cell) D.c i him
 rcases find_cases t (a ++ b) with ⟨a', y, b', hab, hyn, ha'⟩ | hno
 ·have hf2 := findE_some (b := b') hyn a' 0 ha'
  rw [← hab] at hf2
  have hy : y ∈ D.ents := by
   have : y ∈ a ++ b := by rw [hab]; simp
   rw [he]
   rcases List.mem_append.1 this with h' | h' <;> simp [h']
  have ey := cellsM S D.m ((a ++ b).map Ent.cell) D.c y.f (Ne.symm (h.ne_mf hy))
  have hEy := h.ents y hy
  simp only [go_sem, e0, e2, ei, b0, b2, h.head, Dk.cells, hf2]
  refine wc_ite (b := true) (by simp only [go_sem] <;> rfl) (fun _ => ?_) (fun h => by cases h)
  have hle := sumLen_mem hy
  have hw : IntKind.i64.wrap (D.used - (y.p.length : Int)) = D.used - y.p.length :=
   w64 (by omega) (by omega)
  simp only [go_sem, e0, e2, ei, ey, b0, b2, h.head, Dk.cells, hEy.cells, hw, i0, i1, i2]
  refine wi_e ?_
  simp only [wE]
  simp only [go_sem, hmi, hf2]
  have hmod : ((a ++ b).map Ent.cell).modify a'.length (fun x => (V.str (mkS t), V.ptr (some (e.f, 0)), x.2.2)) = (a' ++ { e with name := t, born := y.born } :: b').map Ent.cell := by
   have := modify_mid (a'.map Ent.cell) (b'.map Ent.cell) y.cell (fun x => (V.str (mkS t), V.ptr (some (e.f, 0)), x.2.2))
   rw [List.length_map] at this
   rw [hab, List.map_append, List.map_cons, this, List.map_append, List.map_cons]
   rfl
  rw [hmod]
  generalize hS2 : ((S.set D.m (.map ((a ++ b).map Ent.cell) D.c)).set i (.cells [.map (some D.m), .int .i64 D.room, .int .i64 (D.used - y.p.length), .int .i64 D.ops, .int .i64 D.arm, .bool D.off])).set D.m (.map ((a' ++ { e with name := t, born := y.born } :: b').map Ent.cell) D.c) = S2
  have k2 : Keeps (fun j => j = i ∨ j = D.m) S S2 := hS2 ▸ (((Keeps.refl (fun j => j = i ∨ j = D.m) S).set (i := D.m) (.inl (.inr rfl)) _).set (i := i) (.inl (.inl rfl)) _).set (i := D.m) (.inl (.inr rfl)) _
  have c2 : S2.cells i = some [.map (some D.m), .int .i64 D.room, .int .i64 (D.used - y.p.length), .int .i64 D.ops, .int .i64 D.arm, .bool D.off] := by
   rw [← hS2, cellsM _ _ _ _ _ him, cells_setc, if_pos rfl]
  have q2 : S2.hp D.m = some (.map ((a' ++ { e with name := t, born := y.born } :: b').map Ent.cell) D.c) := by rw [← hS2]; simp only [St.set_hp, if_true]
  clear hS2
  have P : D.ents.Perm (e :: y :: (a' ++ b')) := by
   rw [he]
   refine List.perm_middle.trans (List.Perm.cons e ?_)
   rw [hab]; exact List.perm_middle
  have P' : (a' ++ { e with name := t, born := y.born } :: b').Perm ({ e with name := t, born := y.born } :: (a' ++ b')) := List.perm_middle
  have hN := (P.map (·.name)).nodup_iff.1 h.names
  have hO := (P.map (·.f)).nodup_iff.1 h.objs
  have hBn := (P.map (·.born)).nodup_iff.1 h.born
  have hT := toks_symm P h.toks
  simp only [List.map_cons, List.nodup_cons] at hN hO hBn
  rw [List.pairwise_cons, List.pairwise_cons] at hT
  have hrest : ∀ x ∈ a' ++ b', x ∈ D.ents := fun x hx => P.symm.subset (by simp only [List.mem_cons]; exact .inr (.inr hx))
  obtain ⟨dA, oA⟩ := h.reorg (D' := { D with ents := a' ++ { e with name := t, born := y.born } :: b', used := D.used - y.p.length }) k2 c2 q2 rfl (fun x hx => by
    rcases List.mem_cons.1 (P'.subset hx) with rfl | hx
    ·exact ⟨e, hem, rfl, rfl, rfl, rfl⟩
    ·exact ⟨x, hrest x hx, rfl, rfl, rfl, rfl⟩)
   ((P'.map (·.name)).nodup_iff.2 (by simp only [List.map_cons, List.nodup_cons]; exact ⟨by rw [← hyn]; exact hN.2.1, hN.2.2⟩))
   ((P'.map (·.f)).nodup_iff.2 (by simp only [List.map_cons, List.nodup_cons]; exact ⟨fun h' => hO.1 (List.mem_cons_of_mem _ h'), hO.2.2⟩))
   ((P'.map (·.born)).nodup_iff.2 (by simp only [List.map_cons, List.nodup_cons]; exact ⟨hBn.2.1, hBn.2.2⟩))
   (fun x hx => by
    rcases List.mem_cons.1 (P'.subset hx) with rfl | hx
    ·exact h.clock y hy
    ·exact h.clock x (hrest x hx))
   (toks_symm P'.symm (by rw [List.pairwise_cons]; exact ⟨fun x hx => hT.1 x (List.mem_cons_of_mem _ hx), hT.2.2⟩))
   (by
    refine ⟨?_, ?_, hro, fun x hx => ?_, fun x hx => ?_⟩
    ·show D.used - (y.p.length : Int) = ((sumLen (a' ++ { e with name := t, born := y.born } :: b') : Nat) : Int)
     have s1 := congrArg sumLen hab
     rw [sumLen_app, sumLen_mid] at s1
     rw [he, sumLen_mid] at hus
     rw [sumLen_mid]
     simp only
     omega
    ·show D.used - (y.p.length : Int) ≤ D.room
     omega
    ·rcases List.mem_cons.1 (P'.subset hx) with rfl | hx
     ·exact h.wf.sure e hem
     ·exact h.wf.sure x (hrest x hx)
    ·rcases List.mem_cons.1 (P'.subset hx) with rfl | hx
     ·exact ht
     ·exact h.wf.names x (hrest x hx))
  refine hQ _ _ dA ?_ k2 oA
  have f1 : delF s D.abs.files = (a ++ b).map Ent.file := by simp only [Dk.abs, he]; exact delF_some hsn ha
  have f2 : findF t ((a ++ b).map Ent.file) = some y.file := by rw [hab]; exact findF_some hyn ha'
  have f3 : putF { e.file with name := t } ((a ++ b).map Ent.file) = (a' ++ { e with name := t, born := y.born } :: b').map Ent.file := by
   rw [hab]; exact putF_some (e' := { e with name := t, born := y.born }) hyn rfl ha'
  simp only [renF, f1, f2, f3]
  rfl
 ·have hf2 := findE_none (a ++ b) 0 hno
  simp only [go_sem, e0, e2, ei, b0, b2, h.head, Dk.cells, hf2]
  refine wc_ite (b := false) (by simp only [go_sem] <;> rfl) (fun h => by cases h) (fun _ => ?_)
  simp only [go_sem, e0, e2, ei, b0, b2, h.head, Dk.cells]
  refine wi_e ?_
  simp only [wE]
  simp only [go_sem, hmi, hf2]
  have happ : (a ++ b).map Ent.cell ++ [(V.str (mkS t), V.ptr (some (e.f, 0)), D.c)] = ((a ++ b) ++ [{ e with name := t, born := D.c }]).map Ent.cell := by
   rw [List.map_append (l₁ := a ++ b)]; rfl
  rw [happ]
  generalize hS2 : S.set D.m (.map (((a ++ b) ++ [{ e with name := t, born := D.c }]).map Ent.cell) (D.c + 1)) = S2
  have k2 : Keeps (fun j => j = i ∨ j = D.m) S S2 := hS2 ▸ (Keeps.refl (fun j => j = i ∨ j = D.m) S).set (i := D.m) (.inl (.inr rfl)) _
  have c2 : S2.cells i = some D.cells := by rw [← hS2, cellsM _ _ _ _ _ him]; exact h.head
  have q2 : S2.hp D.m = some (.map (((a ++ b) ++ [{ e with name := t, born := D.c }]).map Ent.cell) (D.c + 1)) := by rw [← hS2]; simp only [St.set_hp, if_true]
  clear hS2
  have P : D.ents.Perm (e :: (a ++ b)) := by rw [he]; exact List.perm_middle
  have P' : ((a ++ b) ++ [{ e with name := t, born := D.c }]).Perm ({ e with name := t, born := D.c } :: (a ++ b)) := List.perm_append_comm
  have hN := (P.map (·.name)).nodup_iff.1 h.names
  have hO := (P.map (·.f)).nodup_iff.1 h.objs
  have hBn := (P.map (·.born)).nodup_iff.1 h.born
  have hT := toks_symm P h.toks
  simp only [List.map_cons, List.nodup_cons] at hN hO hBn
  rw [List.pairwise_cons] at hT
  have hrest : ∀ x ∈ a ++ b, x ∈ D.ents := fun x hx => P.symm.subset (List.mem_cons_of_mem _ hx)
  obtain ⟨dA, oA⟩ := h.reorg (D' := { D with ents := (a ++ b) ++ [{ e with name := t, born := D.c }], c := D.c + 1 }) k2 c2 q2 rfl (fun x hx => by
    rcases List.mem_cons.1 (P'.subset hx) with rfl | hx
    ·exact ⟨e, hem, rfl, rfl, rfl, rfl⟩
    ·exact ⟨x, hrest x hx, rfl, rfl, rfl, rfl⟩)
   ((P'.map (·.name)).nodup_iff.2 (by
    simp only [List.map_cons, List.nodup_cons]
    refine ⟨fun h' => ?_, hN.2⟩
    obtain ⟨x, hx, hx'⟩ := List.mem_map.1 h'
    exact hno x hx hx'))
   ((P'.map (·.f)).nodup_iff.2 (by simp only [List.map_cons, List.nodup_cons]; exact hO))
   ((P'.map (·.born)).nodup_iff.2 (by
    simp only [List.map_cons, List.nodup_cons]
    refine ⟨fun h' => ?_, hBn.2⟩
    obtain ⟨x, hx, hx'⟩ := List.mem_map.1 h'
    have := h.clock x (hrest x hx)
    omega))
   (fun x hx => by
    rcases List.mem_cons.1 (P'.subset hx) with rfl | hx
    ·exact Nat.lt_succ_self _
    ·exact Nat.lt_succ_of_lt (h.clock x (hrest x hx)))
   (toks_symm P'.symm (by rw [List.pairwise_cons]; exact ⟨fun x hx => hT.1 x hx, hT.2⟩))
   (by
    refine ⟨?_, hfi, hro, fun x hx => ?_, fun x hx => ?_⟩
    ·show D.used = ((sumLen ((a ++ b) ++ [{ e with name := t, born := D.c }]) : Nat) : Int)
     rw [he, sumLen_mid] at hus
     rw [sumLen_app, sumLen_app]
     simp [sumLen] at hus ⊢
     omega
    ·rcases List.mem_cons.1 (P'.subset hx) with rfl | hx
     ·exact h.wf.sure e hem
     ·exact h.wf.sure x (hrest x hx)
    ·rcases List.mem_cons.1 (P'.subset hx) with rfl | hx
     ·exact ht
     ·exact h.wf.names x (hrest x hx))
  refine hQ _ _ dA ?_ k2 oA
  have f1 : delF s D.abs.files = (a ++ b).map Ent.file := by simp only [Dk.abs, he]; exact delF_some hsn ha
  have f2 : findF t ((a ++ b).map Ent.file) = none := findF_none hno
  have f3 : putF { e.file with name := t } ((a ++ b).map Ent.file) = ((a ++ b) ++ [{ e with name := t, born := D.c }]).map Ent.file :=
   putF_none (e' := { e with name := t, born := D.c }) rfl hno
  simp only [renF, f1, f2, f3]
  rfl
theorem rename_runs {w0 : World} {S : St} {Q : AEnd → St → Prop} {i : Nat} {D : Dk} {s t : List UInt8} (h : DiskAt S i D) (hs : s.length ≤ 1000000000000000) (htl : t.length ≤ 1000000000000000)
    (hQ : ∀ S' D', DiskAt S' i D' → D'.abs = (D.abs.rename s t).2 → Keeps (ownD i D) S S' → (∀ j, ownD i D' j → ownD i D j) → Q (.ret (.int .i64 (D.abs.rename s t).1)) S') :
    RSim Try.prog w0 n_disk_Disk_Rename [.ptr (some (i, 0)), .str (mkS s), .str (mkS t)] S Q := by
  have e1 : ¬ S.n = S.n + 1 := by omega
  have e2 : ¬ S.n = S.n + 1 + 1 := by omega
  have e3 : ¬ S.n + 1 = S.n + 1 + 1 := by omega
  have k0 : Keeps (fun _ => False) S (((S.add (.cells [.ptr (some (i, 0))])).add (.cells [.str (mkS s)])).add (.cells [.str (mkS t)])) := (((Keeps.refl _ S).add _).add _).add _
  have b0 : (((S.add (.cells [.ptr (some (i, 0))])).add (.cells [.str (mkS s)])).add (.cells [.str (mkS t)])).cells S.n = some [.ptr (some (i, 0))] := by simp only [go_sem, e1, e2]
  have b1 : (((S.add (.cells [.ptr (some (i, 0))])).add (.cells [.str (mkS s)])).add (.cells [.str (mkS t)])).cells (S.n + 1) = some [.str (mkS s)] := by simp only [go_sem, e1, e2, e3]
  have b2 : (((S.add (.cells [.ptr (some (i, 0))])).add (.cells [.str (mkS s)])).add (.cells [.str (mkS t)])).cells (S.n + 2) = some [.str (mkS t)] := by simp only [go_sem]
  have n0 : (((S.add (.cells [.ptr (some (i, 0))])).add (.cells [.str (mkS s)])).add (.cells [.str (mkS t)])).n = S.n + 3 := rfl
  have hlt := h.lt
  refine RSim.run mixed k_disk_Disk_Rename ?_ (by simp)
  simp only [b_disk_Disk_Rename, go_sem, e1, e2, e3]
  generalize ((S.add (.cells [.ptr (some (i, 0))])).add (.cells [.str (mkS s)])).add (.cells [.str (mkS t)]) = S0 at k0 b0 b1 b2 n0 ⊢
  refine wi_call ?_
  simp only [go_sem]
  have h0 := h.stay k0
  have stay : ∀ e : Int, D.abs.rename s t = (e, D.abs) → Q (.ret (.int .i64 e)) S0 := fun e he => by
    rw [he] at hQ
    exact hQ S0 D h0 rfl (k0.mono fun _ _ e => e.elim) fun j hj => hj
  refine look_runs (names := [s, t]) (t := .cap) (by intro h; cases h) (by simp) (by simp; exact ⟨hs, htl⟩) ?_
  rw [lookE_two]
  by_cases hn : nameOk s = false ∨ nameOk t = false
  · rw [if_pos hn]
    simp only [go_sem]
    refine wc_ite (b := true) (by simp only [go_sem] <;> rfl) (fun _ => ?_) (fun h => by cases h)
    simp only [go_sem]
    exact stay 1 (by unfold DS.rename; rw [if_pos hn])
  · rw [if_neg hn]
    have hns : nameOk s = true := by cases h' : nameOk s <;> simp [h'] at hn ⊢
    have hnt : nameOk t = true := by cases h' : nameOk t <;> simp [h'] at hn ⊢
    simp only [go_sem, b0, b1, b2]
    refine wc_ite (b := false) (by simp only [go_sem] <;> rfl) (fun h => by cases h) (fun _ => ?_)
    simp only [go_sem, b0, b1, b2]
    refine wc_ite (b := decide (s = t)) (by simp only [go_sem]) (fun hc => ?_) (fun hc => ?_)
    · simp only [go_sem]
      exact stay 1 (by unfold DS.rename; rw [if_neg hn, if_pos (of_decide_eq_true hc)])
    · have hst : s ≠ t := of_decide_eq_false hc
      have last : D.abs.rename s t = D.abs.change s (renF s t) → ∀ fr : Fr, fr 3 = .ptr (some (S.n, 0)) → fr 4 = .ptr (some (S.n + 1, 0)) → fr 5 = .ptr (some (S.n + 2, 0)) →
          wCode (RSim Try.prog w0) (.seq (.reg [] [.run ⟨(some 47), none, .f (.load false 1 (.t 3))⟩,
    .run ⟨(some 48), none, .f (.load false 1 (.t 4))⟩,
    .run ⟨(some 49), none, .f (.mkFunc n_disk_Disk_Rename_1 [] [(.t 3), (.t 4), (.t 5)])⟩,
    .run ⟨(some 50), none, .e (.call n_disk_Disk_change [(.t 47), (.t 48), (.t 49)])⟩,
    .run ⟨(some 6), none, .f (.mv (.t 50))⟩])
   .ret) fr S0 (resQ [.tmp 6] Q) := by
        intro hre fr f3 f4 f5
        rw [hre] at hQ
        simp only [go_sem, f3, f4, f5, b0, b1, b2]
        refine wi_call ?_
        simp only [go_sem]
        refine change_runs h0 hs (fun hno => ?_) (fun a e b S1 h1 h2 he hsn ha ho d1 k1 => ?_) (fun a e b S1 h1 h2 he hsn ha ho d1 k1 => ?_)
        · simp only [go_sem]
          rw [change_no (renF s t) hno] at hQ
          exact hQ S0 D h0 rfl (k0.mono fun _ _ e => e.elim) fun j hj => hj
        · simp only [go_sem]
          rw [change_yes (renF s t) h1 h2 he hsn ha, if_pos ho] at hQ
          exact hQ S1 _ d1 rfl ((k0.mono (o' := ownD i D) fun _ _ e => e.elim).trans k1 fun _ _ e => .inl e) fun j hj => hj
        · rw [change_yes (renF s t) h1 h2 he hsn ha, if_neg (by simp [ho])] at hQ
          refine renFn_runs (B := S.n) d1 he hsn ha hst hnt (k1.cells b0 (by omega) (by omega)) (k1.cells b1 (by omega) (by omega)) (k1.cells b2 (by omega) (by omega)) (by have := k1.n; omega) (fun j hj e => by omega) fun S' D' dA hD' k2 oA => ?_
          simp only [go_sem]
          exact hQ S' D' dA hD' (((k0.mono (o' := ownD i D) fun _ _ e => e.elim).trans k1 fun _ _ e => .inl e).trans k2 fun j _ e => e.elim .inl fun e => .inr (.inl e)) oA
      rcases find_cases s D.ents with ⟨a, e, b, he, hsn, ha⟩ | hno
      · have hf := findE_some (b := b) hsn a 0 ha
        rw [← he] at hf
        have hE := h0.ents e (by rw [he]; simp)
        have hfs : findF s D.abs.files = some e.file := by simp only [Dk.abs, he]; exact findF_some hsn ha
        simp only [go_sem, b0, b1, h0.head, h0.map, hf, Dk.cells, hE.cells]
        have hdec : decide ((e.sure : Int) < (e.p.length : Int)) = decide (e.sure < e.p.length) := dec_eq (by omega)
        cases hoff : D.off with
        | true =>
          simp only [go_sem, hoff]
          refine wc_ite (b := false) (by simp only [go_sem] <;> rfl) (fun h => by cases h) (fun _ => ?_)
          simp only [wc_skip, seqQ_normal]
          refine last ?_ _ (by simp only [go_sem]) (by simp only [go_sem]) (by simp only [go_sem])
          unfold DS.rename
          rw [if_neg hn, if_neg hst, if_neg (by rintro ⟨h', _⟩; rw [show D.abs.off = D.off from rfl, hoff] at h'; cases h')]
        | false =>
          simp only [go_sem, hoff, hE.cells, hdec]
          refine wc_ite (b := decide (e.sure < e.p.length)) (by simp only [go_sem]) (fun hc => ?_) (fun hc => ?_)
          · simp only [go_sem]
            refine stay 12 ?_
            unfold DS.rename
            rw [if_neg hn, if_neg hst, if_pos ⟨hoff, e.file, hfs, of_decide_eq_true (by assumption)⟩]
          · simp only [wc_skip, seqQ_normal]
            refine last ?_ _ (by simp only [go_sem]) (by simp only [go_sem]) (by simp only [go_sem])
            unfold DS.rename
            rw [if_neg hn, if_neg hst, if_neg]
            rintro ⟨_, x, hx, hx'⟩
            rw [hfs] at hx
            injection hx with hx
            subst hx
            exact of_decide_eq_false (by assumption) hx'
      · have hf := findE_none D.ents 0 hno
        have hfs : findF s D.abs.files = none := findF_none hno
        have hre : D.abs.rename s t = D.abs.change s (renF s t) := by
          unfold DS.rename
          rw [if_neg hn, if_neg hst, if_neg]
          rintro ⟨_, x, hx, hx'⟩
          rw [hfs] at hx
          cases hx
        simp only [go_sem, b0, b1, h0.head, h0.map, hf, Dk.cells]
        cases hoff : D.off with
        | true =>
          simp only [go_sem, hoff]
          refine wc_ite (b := false) (by simp only [go_sem] <;> rfl) (fun h => by cases h) (fun _ => ?_)
          simp only [wc_skip, seqQ_normal]
          exact last hre _ (by simp only [go_sem]) (by simp only [go_sem]) (by simp only [go_sem])
        | false =>
          simp only [go_sem, hoff]
          refine wc_ite (b := false) (by simp only [go_sem] <;> rfl) (fun h => by cases h) (fun _ => ?_)
          simp only [wc_skip, seqQ_normal]
          exact last hre _ (by simp only [go_sem]) (by simp only [go_sem]) (by simp only [go_sem])
end Go.VM
namespace Go.VM
open Go Go.RowKit Go.Proofs
def keepI (keep : List Int) (j : Nat) (x : File) : Int :=
 match keep[j]? with
 | some k => let m := if (x.p.length : Int) - x.sure < k then (x.p.length : Int) - x.sure else k
  if m > 0 then m else 0
 | none => 0
def cutF (keep : List Int) (j : Nat) (x : File) : File := { x with p := x.p.take (x.sure + (keepI keep j x).toNat), sure := x.sure + (keepI keep j x).toNat }
def stepR (keep : List Int) (D : DS) (j : Nat) (s : List UInt8) : DS :=
 match findF s D.files with
 | some x => { D with files := putF (cutF keep j x) D.files, used := D.used - ((x.p.length : Int) - x.sure - keepI keep j x) }
 | none => D
def runR (keep : List Int) : Nat → List (List UInt8) → DS → DS
 | _, [], D => D
 | j, s :: r, D => runR keep (j + 1) r (stepR keep D j s)
def DS.names (D : DS) : List (List UInt8) := sortS (D.files.map (·.name))
def DS.restart (D : DS) (keep : List Int) : DS := { runR keep 0 D.names D with off := false, arm := 0 }
theorem abs_names (D : Dk) : D.abs.names = D.names := by
 simp only [DS.names, Dk.names, Dk.abs, List.map_map]; rfl
theorem keepI_le (keep : List Int) (j : Nat) (x : File) (h : x.sure ≤ x.p.length) : 0 ≤ keepI keep j x ∧ keepI keep j x ≤ (x.p.length : Int) - x.sure := by
 unfold keepI
 split
 ·simp only
  split <;> split <;> omega
 ·omega
def intsV (ks : List Int) (t : Tok) : V := .sl (ks.map (V.int .i64)) ks.length 1 t
theorem restart_rest {w0 : World} {fr : Fr} {S : St} {Q : CPost} {i : Nat} {D : Dk} {n : Int} {a b : List Ent} {e : Ent} (h : DiskAt S i D) (he : D.ents = a ++ e :: b) (hn0 : 0 ≤ n) (hn1 : n ≤ (e.p.length : Int) - e.sure)
  (f0 : fr 0 = .ptr (some (i, 0))) (f7 : fr 7 = .ptr (some (e.f, 0))) (f8 : fr 8 = .int .i64 n)
  (hQ : ∀ fr' S' t', (∀ k, k = 0 ∨ k = 1 ∨ k = 12 ∨ k = 13 ∨ k = 14 → fr' k = fr k) →
   DiskAt S' i { D with ents := a ++ { e with p := e.p.take (e.sure + n.toNat), sure := e.sure + n.toNat, t := t' } :: b, used := D.used - ((e.p.length : Int) - e.sure - n) } → Keeps (ownD i D) S S' →
   (∀ j, ownD i { D with ents := a ++ { e with p := e.p.take (e.sure + n.toNat), sure := e.sure + n.toNat, t := t' } :: b, used := D.used - ((e.p.length : Int) - e.sure - n) } j → ownD i D j ∨ S.n ≤ j) → Q .normal fr' S') :
  wCode (RSim Try.prog w0) r_disk_Disk_Restart_0 fr S Q := by
 have hem : e ∈ D.ents := by rw [he]; simp
 have hE := h.ents e hem
 have hus := h.wf.used; have hfi := h.wf.fits; have hro := h.wf.room; have hsu := h.wf.sure e hem
 have hle := sumLen_mem hem
 have hif : ¬ i = e.f := h.ne_f hem
 have hif' : ¬ e.f = i := fun e' => hif e'.symm
 have w1 : IntKind.i64.wrap ((e.p.length : Int) - e.sure) = (e.p.length : Int) - e.sure := w64 (by omega) (by omega)
 have w2 : IntKind.i64.wrap ((e.p.length : Int) - e.sure - n) = (e.p.length : Int) - e.sure - n := w64 (by omega) (by omega)
 have w3 : IntKind.i64.wrap (D.used - ((e.p.length : Int) - e.sure - n)) = D.used - ((e.p.length : Int) - e.sure - n) := w64 (by omega) (by omega)
 have w4 : IntKind.i64.wrap ((e.sure : Int) + n) = ((e.sure + n.toNat : Nat) : Int) := by rw [w64 (by omega) (by omega)]; omega
 have hh : e.sure + n.toNat ≤ e.p.length := by omega
 simp only [r_disk_Disk_Restart_0, go_sem, f0, f7, f8, h.head, Dk.cells, hE.cells, hif, hif', w1, w2, w3, w4, hh]
 generalize hS1 : S.set i (.cells [.map (some D.m), .int .i64 D.room, .int .i64 (D.used - ((e.p.length : Int) - e.sure - n)), .int .i64 D.ops, .int .i64 D.arm, .bool D.off]) = S1
 have k1 : Keeps (fun j => j = i) S S1 := hS1 ▸ Keeps.set1 _ _ _
 have c1 : S1.cells i = some [.map (some D.m), .int .i64 D.room, .int .i64 (D.used - ((e.p.length : Int) - e.sure - n)), .int .i64 D.ops, .int .i64 D.arm, .bool D.off] := by rw [← hS1, cells_setc, if_pos rfl]
 clear hS1
 have e1 := k1.cells hE.cells hE.lt hif'
 have tail : ∀ (v : V) (fr1 : Fr) (Kp : V → St → Prop), v.elems S1 1 = some (e.sure + n.toNat, (e.p.take (e.sure + n.toNat)).map u8V) → fr1 75 = v → fr1 7 = .ptr (some (e.f, 0)) → fr1 64 = .ptr (some (e.f, 0)) → (∀ k, k = 0 ∨ k = 1 ∨ k = 12 ∨ k = 13 ∨ k = 14 → fr1 k = fr k) →
   wItems (RSim Try.prog w0) [.run ⟨(some 76), none, .e (.append 1 1 false (.c (.sl [] 0 1 .nil)) (.t 75))⟩,
  .run ⟨(some 77), none, .f (.nilCheck (.t 64))⟩,
  .run ⟨(some 78), none, .f (.fieldAddr 0 (.t 77))⟩,
  .run ⟨none, none, .e (.store 1 (.t 78) (.t 76))⟩] fr1 S1 (seqQ (RSim Try.prog w0) (.reg [] [.run ⟨(some 79), none, .f (.mv (.t 7))⟩,
  .run ⟨(some 80), none, .f (.mv (.t 7))⟩,
  .run ⟨(some 81), none, .f (.nilCheck (.t 80))⟩,
  .run ⟨(some 82), none, .f (.fieldAddr 0 (.t 81))⟩,
  .run ⟨(some 83), none, .f (.load false 1 (.t 82))⟩,
  .run ⟨(some 84), none, .f (.len .sl (.t 83))⟩,
  .run ⟨(some 85), none, .f (.nilCheck (.t 79))⟩,
  .run ⟨(some 86), none, .f (.fieldAddr 1 (.t 85))⟩,
  .run ⟨none, none, .e (.store 1 (.t 86) (.t 84))⟩]) Q .normal) Kp := by
  intro v fr1 Kp hv g75 g7 g64 gk
  refine wi_append (n := 0) (cs := []) (t := .nil) (m := e.sure + n.toNat) (xs := (e.p.take (e.sure + n.toNat)).map u8V) (by simp only [go_sem]) (by simp only [go_sem, g75]; exact hv) (by simp; omega) (by simp [roomOk]; omega) trivial (fun _ => ⟨rfl, rfl⟩) fun t' S2 k2 ht2 hn2 hz => ?_
  rw [tokOwn_nil] at k2
  have c2 := k2.cells c1 (k1.lt h.lt) id
  have e2 := k2.cells e1 (k1.lt hE.lt) id
  simp only [go_sem, g7, g64, e2]
  generalize hS3 : S2.set e.f (.cells [.sl ((e.p.take (e.sure + n.toNat)).map u8V) (e.sure + n.toNat) 1 t', .int .i64 ((e.sure + n.toNat : Nat) : Int)]) = S3
  have k3 : Keeps (fun j => j = e.f) S2 S3 := hS3 ▸ Keeps.set1 _ _ _
  have e3 : S3.cells e.f = some [.sl ((e.p.take (e.sure + n.toNat)).map u8V) (e.sure + n.toNat) 1 t', .int .i64 ((e.sure + n.toNat : Nat) : Int)] := by rw [← hS3, cells_setc, if_pos rfl]
  have c3 := k3.cells c2 (k2.lt (k1.lt h.lt)) hif
  clear hS3
  have hlen : (e.p.take (e.sure + n.toNat)).length = e.sure + n.toNat := by rw [List.length_take]; omega
  have kA : Keeps (fun j => j = i ∨ j = e.f ∨ e.t = .at j) S S3 := ((k1.mono (o' := fun j => j = i ∨ j = e.f ∨ e.t = .at j) fun _ _ h => .inl h).trans k2 fun _ _ h => h.elim).trans k3 fun _ _ h => .inr (.inl h)
  obtain ⟨dA, oA⟩ := h.repl (e' := { e with p := e.p.take (e.sure + n.toNat), sure := e.sure + n.toNat, t := t' }) (D' := { D with ents := a ++ { e with p := e.p.take (e.sure + n.toNat), sure := e.sure + n.toNat, t := t' } :: b, used := D.used - ((e.p.length : Int) - e.sure - n) }) he kA (fun _ h => h) c3 rfl rfl rfl rfl rfl rfl
   ⟨by show S3.cells e.f = _; rw [e3, hlen], k3.lt (k2.lt (k1.lt hE.lt)), ht2.keep k3 fun j hj e' => by subst e'; exact tok_cells ht2 (hp_cells e2) (by intro x; cases x) hj, fun e' => by
    have := (hz e').1
    show e.p.take (e.sure + n.toNat) = []
    rw [this]; rfl⟩ (fun j hj => .inl (Nat.le_trans k1.n (hn2 j hj))) (by
   refine ⟨?_, ?_, hro, fun x hx => ?_, fun x hx => ?_⟩
   ·show D.used - ((e.p.length : Int) - e.sure - n) = ((sumLen (a ++ { e with p := e.p.take (e.sure + n.toNat), sure := e.sure + n.toNat, t := t' } :: b) : Nat) : Int)
    rw [he, sumLen_mid] at hus
    rw [sumLen_mid]
    show _ = ((sumLen a + (e.p.take (e.sure + n.toNat)).length + sumLen b : Nat) : Int)
    rw [hlen]; omega
   ·show D.used - ((e.p.length : Int) - e.sure - n) ≤ D.room
    omega
   ·rcases List.mem_append.1 hx with hx | hx
    ·exact h.wf.sure x (by rw [he]; simp [hx])
    ·rcases List.mem_cons.1 hx with rfl | hx
     ·exact Nat.le_of_eq hlen.symm
     ·exact h.wf.sure x (by rw [he]; simp [hx])
   ·rcases List.mem_append.1 hx with hx | hx
    ·exact h.wf.names x (by rw [he]; simp [hx])
    ·rcases List.mem_cons.1 hx with rfl | hx
     ·exact h.wf.names e hem
     ·exact h.wf.names x (by rw [he]; simp [hx]))
  refine hQ _ S3 t' (fun k hk => ?_) dA (kA.mono fun j _ e' => ?_) oA
  ·rw [← gk k hk]
   rcases hk with rfl | rfl | rfl | rfl | rfl <;> simp only [go_sem]
  ·rcases e' with e' | e' | e'
   ·exact .inl e'
   ·exact .inr (.inr ⟨e, hem, .inl e'⟩)
   ·exact .inr (.inr ⟨e, hem, .inr e'⟩)
 by_cases ht : e.t = .nil
 ·have hp := hE.nil ht
  simp only [go_sem, ht, e1]
  refine tail (.sl (e.p.map u8V) e.p.length 1 .nil) _ _ ?_ ?_ ?_ ?_ ?_
  ·rw [hp] at hh ⊢
   have : e.sure + n.toNat = 0 := by simp at hh; omega
   rw [this]; rfl
  ·simp only [go_sem]
  ·simp only [go_sem, f7]
  ·simp only [go_sem]
  ·intro k hk; rcases hk with rfl | rfl | rfl | rfl | rfl <;> simp only [go_sem]
 ·simp only [go_sem, ht, e1]
  refine tail (.sl (List.take ((e.sure + n.toNat - 0) * 1) (e.p.map u8V)) (e.sure + n.toNat - 0) 1 (if e.sure + n.toNat = e.p.length then e.t else .no)) _ _ ?_ ?_ ?_ ?_ ?_
  ·simp only [V.elems]
   rw [if_neg (by split <;> simp [ht])]
   simp [List.map_take]
  ·simp only [go_sem]
  ·simp only [go_sem, f7]
  ·simp only [go_sem]
  ·intro k hk; rcases hk with rfl | rfl | rfl | rfl | rfl <;> simp only [go_sem]
theorem restart_body {w0 : World} {fr : Fr} {S : St} {Q : CPost} {i : Nat} {D : Dk} {ns : List (List UInt8)} {t kt : Tok} {keep : List Int} {j : Nat} {a b : List Ent} {e : Ent} {s : List UInt8} (h : DiskAt S i D) (hs : ns[j]? = some s) (htn : t ≠ .nil) (hkn : kt = .nil → keep = [])
  (he : D.ents = a ++ e :: b) (hsn : e.name = s) (ha : ∀ x ∈ a, x.name ≠ s) (hj : j < ns.length)
  (f0 : fr 0 = .ptr (some (i, 0))) (f1 : fr 1 = intsV keep kt) (f12 : fr 12 = strsV ns t) (f14 : fr 14 = .int .i64 j)
  (hQ : ∀ fr' S' D', fr' 0 = fr 0 → fr' 1 = fr 1 → fr' 12 = fr 12 → fr' 13 = fr 13 → fr' 14 = fr 14 → DiskAt S' i D' → D'.abs = stepR keep D.abs j s → D'.ents.map (·.name) = D.ents.map (·.name) → Keeps (ownD i D) S S' → (∀ j, ownD i D' j → ownD i D j ∨ S.n ≤ j) → Q .normal fr' S') :
  wCode (RSim Try.prog w0) k_disk_Disk_Restart_0 fr S Q := by
 have hem : e ∈ D.ents := by rw [he]; simp
 have hE := h.ents e hem
 have hf := findE_some (b := b) hsn a 0 ha
 rw [← he] at hf
 have hdr : (List.drop (j * 1) (ns.map fun s => V.str (mkS s))).head? = some (.str (mkS s)) := by
  rw [Nat.mul_one, List.head?_drop, List.getElem?_map, hs]; rfl
 have hus := h.wf.used; have hfi := h.wf.fits; have hro := h.wf.room; have hsu := h.wf.sure e hem
 have hle := sumLen_mem hem
 obtain ⟨hk0, hk1⟩ := keepI_le keep j e.file hsu
 simp only [Ent.file] at hk0 hk1
 have hif : ¬ i = e.f := h.ne_f hem
 have hif' : ¬ e.f = i := fun e' => hif e'.symm
 simp only [k_disk_Disk_Restart_0, go_sem, f0, f1, f12, f14, strsV, intsV, hj, htn, hdr]
 simp only [go_sem, f0, f1, h.head, h.map, hf, Dk.cells]
 have fin : ∀ fr1 : Fr, fr1 0 = fr 0 → fr1 1 = fr 1 → fr1 12 = fr 12 → fr1 13 = fr 13 → fr1 14 = fr 14 → fr1 7 = .ptr (some (e.f, 0)) → fr1 8 = .int .i64 (keepI keep j e.file) → wCode (RSim Try.prog w0) r_disk_Disk_Restart_0 fr1 S Q := by
  intro fr1 g0 g1 g12 g13 g14 g7 g8
  refine restart_rest h he hk0 hk1 (g0.trans f0) g7 g8 fun fr' S' t' hfr dA kA oA => hQ fr' S' _ ((hfr 0 (by simp)).trans g0) ((hfr 1 (by simp)).trans g1) ((hfr 12 (by simp)).trans g12) ((hfr 13 (by simp)).trans g13) ((hfr 14 (by simp)).trans g14) dA ?_ ?_ kA oA
  ·have hfs : findF s D.abs.files = some e.file := by simp only [Dk.abs, he]; exact findF_some hsn ha
   have := putF_some (s := s) (e := e) (e' := { e with p := e.p.take (e.sure + (keepI keep j e.file).toNat), sure := e.sure + (keepI keep j e.file).toNat, t := t' }) (b := b) hsn hsn ha
   rw [← he] at this
   simp only [stepR, hfs]
   exact congrArg (fun fs => ({ files := fs, room := D.room, used := D.used - ((e.p.length : Int) - e.sure - keepI keep j e.file), ops := D.ops, arm := D.arm, off := D.off } : DS)) this.symm
  ·simp [he]
 have hw0 : IntKind.i64.wrap ((e.p.length : Int) - e.sure) = (e.p.length : Int) - e.sure := w64 (by omega) (by omega)
 refine wc_ite (b := decide ((j : Int) < keep.length)) (by simp only [go_sem]) (fun hc => ?_) (fun hc => ?_)
 ·have hjk : j < keep.length := by have := of_decide_eq_true hc; omega
  have hktn : kt ≠ .nil := fun e' => by rw [hkn e'] at hjk; cases hjk
  have hkj : keep[j]? = some (keep[j]'hjk) := List.getElem?_eq_getElem hjk
  have hdk : (List.drop (j * 1) (keep.map (V.int .i64))).head? = some (.int .i64 (keep[j]'hjk)) := by
   rw [Nat.mul_one, List.head?_drop, List.getElem?_map, hkj]; rfl
  simp only [go_sem, f0, f1, intsV, hjk, hktn, hdk, hE.cells, hw0, minmaxL, minmaxV]
  refine fin _ (by simp only [go_sem]) (by simp only [go_sem, f1, intsV]) (by simp only [go_sem]) (by simp only [go_sem]) (by simp only [go_sem, f14]) (by simp only [go_sem]) ?_
  simp only [go_sem, keepI, hkj, Ent.file]
  rfl
 ·have hjk : keep[j]? = none := List.getElem?_eq_none (by have := of_decide_eq_false hc; omega)
  simp only [go_sem]
  refine fin _ (by simp only [go_sem]) (by simp only [go_sem, f1, intsV]) (by simp only [go_sem]) (by simp only [go_sem]) (by simp only [go_sem, f14]) (by simp only [go_sem]) ?_
  simp only [go_sem, keepI, hjk]
theorem sortS_mem {l : List (List UInt8)} {s : List UInt8} : s ∈ sortS l ↔ s ∈ l := (List.mergeSort_perm l _).mem_iff
theorem sortS_len (l : List (List UInt8)) : (sortS l).length = l.length := List.length_mergeSort l
theorem restart_runs {w0 : World} {S : St} {Q : AEnd → St → Prop} {i : Nat} {D : Dk} {keep : List Int} {kt : Tok} (h : DiskAt S i D) (hn : D.ents.length ≤ 1000000000) (hkn : kt = .nil → keep = [])
  (hQ : ∀ S' D', DiskAt S' i D' → D'.abs = D.abs.restart keep → Keeps (ownD i D) S S' → (∀ j, ownD i D' j → ownD i D j ∨ S.n ≤ j) → Q (.ret (.int .i64 0)) S') :
  RSim Try.prog w0 n_disk_Disk_Restart [.ptr (some (i, 0)), intsV keep kt] S Q := by
 refine RSim.run mixed k_disk_Disk_Restart ?_ (by simp)
 simp only [b_disk_Disk_Restart, go_sem]
 refine wc_ite (b := false) (by simp only [go_sem] <;> rfl) (fun h => by cases h) (fun _ => ?_)
 simp only [go_sem]
 refine wi_call ?_
 simp only [go_sem]
 refine names_runs h hn fun S0 t ht1 ht2 k0 => ?_
 simp only [go_sem]
 have h0 := h.stay k0
 have hlen : D.names.length = D.ents.length := by simp [Dk.names, sortS_len]
 simp only [strsV, go_sem]
 refine loop_rule RSim.le (k := D.names.length) (fun m fr S1 => ∃ (j : Nat) (Dj : Dk), m = D.names.length - j ∧ j ≤ D.names.length ∧ fr 0 = .ptr (some (i, 0)) ∧ fr 1 = intsV keep kt ∧ fr 12 = strsV D.names t ∧ fr 13 = .int .i64 D.names.length ∧ fr 14 = .int .i64 j ∧
   DiskAt S1 i Dj ∧ runR keep j (D.names.drop j) Dj.abs = runR keep 0 D.names D.abs ∧ Dj.ents.map (·.name) = D.ents.map (·.name) ∧ Keeps (ownD i D) S S1 ∧ (∀ j, ownD i Dj j → ownD i D j ∨ S.n ≤ j)) ?_
  ⟨0, D, rfl, Nat.zero_le _, by simp only [go_sem], by simp only [go_sem], by simp only [go_sem, strsV], by simp only [go_sem], by simp only [go_sem, Int.natCast_zero], h0, rfl, rfl, k0.mono fun _ _ e => e.elim, fun j hj => .inl hj⟩
 rintro m fr S1 ⟨j, Dj, hm, hj, f0, f1, f12, f13, f14, d1, hrun, hnm, k1, o1⟩
 subst hm
 simp only [l_disk_Disk_Restart_0, go_sem, f13, f14]
 refine wc_ite (b := decide ((j : Int) < D.names.length)) (by simp only [go_sem]) (fun hc => ?_) (fun hc => ?_)
 ·have hj2 : j < D.names.length := by have := of_decide_eq_true hc; omega
  have hb : D.names[j]? = some (D.names[j]'hj2) := List.getElem?_eq_getElem hj2
  have hw : IntKind.i64.wrap ((j : Int) + 1) = ((j + 1 : Nat) : Int) := by rw [w64 (by omega) (by omega)]; omega
  have htn : t ≠ .nil := fun e => by
   have h9 : D.names.length = 0 := by rw [hlen, ht1 e]; rfl
   omega
  generalize hs : D.names[j]'hj2 = s at hb
  have hmem : s ∈ Dj.ents.map (·.name) := by
   rw [hnm, ← sortS_mem]
   exact List.mem_of_getElem? hb
  rcases find_cases s Dj.ents with ⟨a, e, b, he, hsn, ha⟩ | hno
  ·simp only [go_sem]
   refine restart_body d1 hb htn hkn he hsn ha hj2 (by simp only [go_sem]; exact f0) (by simp only [go_sem]; exact f1) (by simp only [go_sem]; exact f12) (by simp only [go_sem]; exact f14) fun fr' S' D' g0 g1 g12 g13 g14 dA hA hnA kA oA => ?_
   simp only [go_sem] at g0 g1 g12 g13 g14
   simp only [go_sem, g14, f14, hw]
   refine ⟨D.names.length - (j + 1), by omega, j + 1, D', rfl, by omega, by simp only [go_sem, g0, f0], by simp only [go_sem, g1, f1], by simp only [go_sem, g12, f12], by simp only [go_sem, g13, f13], by simp only [go_sem], dA, ?_, by rw [hnA, hnm], k1.trans kA fun q hq hq' => ?_, fun q hq => ?_⟩
   ·rw [hA, ← hrun]
    have : D.names.drop j = s :: D.names.drop (j + 1) := by rw [List.drop_eq_getElem_cons hj2, hs]
    rw [this]; rfl
   ·rcases o1 q hq' with h' | h'
    ·exact h'
    ·omega
   ·rcases oA q hq with h' | h'
    ·exact o1 q h'
    ·exact .inr (Nat.le_trans k1.n h')
  ·obtain ⟨e, he, hes⟩ := List.mem_map.1 hmem
   exact absurd hes (hno e he)
 ·have hje : j = D.names.length := by have := of_decide_eq_false hc; omega
  subst hje
  rw [List.drop_length] at hrun
  have hrun : Dj.abs = runR keep 0 D.names D.abs := hrun
  simp only [s_disk_Disk_Restart_0, go_sem, f0, d1.head, Dk.cells]
  obtain ⟨dA, kA⟩ := d1.head' (D' := { Dj with off := false, arm := 0 }) rfl rfl rfl ⟨d1.wf.used, d1.wf.fits, d1.wf.room, d1.wf.sure, d1.wf.names⟩
  refine hQ _ _ dA ?_ (k1.trans kA fun q hq hq' => hq' ▸ .inl rfl) o1
  show ({ Dj.abs with off := false, arm := 0 } : DS) = _
  rw [hrun, DS.restart, abs_names]
end Go.VM
namespace Go.VM
open Go Go.RowKit Go.Proofs
def DS.sureOf (D : DS) (s : List UInt8) : Int := match findF s D.files with | some x => x.sure | none => 0
def DS.readE (D : DS) (s : List UInt8) : Int := if nameOk s = false then 1 else if D.off = true then 10 else match findF s D.files with | some _ => 0 | none => 8
def DS.bytes (D : DS) (s : List UInt8) : List UInt8 := if nameOk s = false then [] else if D.off = true then [] else match findF s D.files with | some x => x.p | none => []
theorem read_abs {w0 : World} {S : St} {Q : AEnd → St → Prop} {i : Nat} {D : Dk} {s : List UInt8} (h : DiskAt S i D) (hl : s.length ≤ 1000000000000000)
  (hQ : ∀ S' v, IsBytes v (D.abs.bytes s) → Keeps (fun _ => False) S S' → Q (.ret (.tup [v, .int .i64 (D.abs.readE s)])) S') : RSim Try.prog w0 n_disk_Disk_Read [.ptr (some (i, 0)), .str (mkS s)] S Q := by
 refine read_runs h hl (fun a e b S' v hn ho he hs ha hv k => ?_) fun hno => ?_
 ·have : findF s D.abs.files = some e.file := by simp only [Dk.abs, he]; exact findF_some hs ha
  have ho' : D.abs.off = false := ho
  simp only [DS.bytes, DS.readE, hn, ho', this, if_false, reduceCtorEq] at hQ
  exact hQ S' v hv k
 ·have hq := hQ S (.sl [] 0 1 .nil)
  simp only [DS.bytes, DS.readE] at hq
  by_cases h1 : nameOk s = false
  ·simp only [h1, if_true, Dk.thereE] at hq ⊢
   exact hq isBytes_nil (Keeps.refl _ _)
  ·by_cases h2 : D.off = true
   ·have h2' : D.abs.off = true := h2
    simp only [h1, h2, h2', if_true, if_false, Dk.thereE] at hq ⊢
    exact hq isBytes_nil (Keeps.refl _ _)
   ·have h2' : ¬ D.abs.off = true := h2
    have h3 : ∀ x ∈ D.ents, x.name ≠ s := by
     rcases hno with h | h | h
     ·exact absurd h h1
     ·exact absurd h h2
     ·exact h
    have : findF s D.abs.files = none := findF_none h3
    simp only [h1, h2, h2', if_false, Dk.thereE, this] at hq ⊢
    exact hq isBytes_nil (Keeps.refl _ _)
theorem keeps_new {S S1 S2 : St} {o : Nat → Prop} (h : Keeps (fun _ => False) S S1) (k : Keeps o S1 S2) (ho : ∀ j, o j → S.n ≤ j) : Keeps (fun _ => False) S S2 :=
 h.trans k fun j hj h' => by have := ho j h'; omega
end Go.VM
namespace Go.VM
open Go Go.RowKit Go.Proofs
theorem wu32 {x : Int} (h1 : 0 ≤ x) (h2 : x < 4294967296) : IntKind.u32.wrap x = x := by
 rw [IntKind.wrap_u32]; omega
theorem bv_nat (n a : Nat) (h : a < 2 ^ n) : (BitVec.ofInt n (a : Int)).toNat = a := by
 rw [BitVec.ofInt_natCast, BitVec.toNat_ofNat]
 exact Nat.mod_eq_of_lt h
theorem or64 {a b : Nat} (ha : a < 18446744073709551616) (hb : b < 18446744073709551616) : bitsV .or .u64 (a : Int) (b : Int) = some ((a ||| b : Nat) : Int) := by
 have h := Nat.or_lt_two_pow (n := 64) ha hb
 show some (IntKind.u64.wrap (((BitVec.ofInt 64 (a : Int)) ||| (BitVec.ofInt 64 (b : Int))).toNat : Int)) = _
 rw [BitVec.toNat_or, bv_nat 64 a ha, bv_nat 64 b hb, wu64 (by omega) (by omega)]
theorem or8 {a b : Nat} (ha : a < 256) (hb : b < 256) : bitsV .or .u8 (a : Int) (b : Int) = some ((a ||| b : Nat) : Int) := by
 have h := Nat.or_lt_two_pow (n := 8) ha hb
 show some (IntKind.u8.wrap (((BitVec.ofInt 8 (a : Int)) ||| (BitVec.ofInt 8 (b : Int))).toNat : Int)) = _
 rw [BitVec.toNat_or, bv_nat 8 a ha, bv_nat 8 b hb, wu8 (by omega) (by omega)]
theorem and8 {a b : Nat} (ha : a < 256) (hb : b < 256) : bitsV .and .u8 (a : Int) (b : Int) = some ((a &&& b : Nat) : Int) := by
 have h := Nat.and_lt_two_pow (n := 8) a hb
 show some (IntKind.u8.wrap (((BitVec.ofInt 8 (a : Int)) &&& (BitVec.ofInt 8 (b : Int))).toNat : Int)) = _
 rw [BitVec.toNat_and, bv_nat 8 a ha, bv_nat 8 b hb, wu8 (by omega) (by omega)]
theorem and32 {a b : Nat} (ha : a < 4294967296) (hb : b < 4294967296) : bitsV .and .u32 (a : Int) (b : Int) = some ((a &&& b : Nat) : Int) := by
 have h := Nat.and_lt_two_pow (n := 32) a hb
 show some (IntKind.u32.wrap (((BitVec.ofInt 32 (a : Int)) &&& (BitVec.ofInt 32 (b : Int))).toNat : Int)) = _
 rw [BitVec.toNat_and, bv_nat 32 a ha, bv_nat 32 b hb, wu32 (by omega) (by omega)]
theorem xor32 {a b : Nat} (ha : a < 4294967296) (hb : b < 4294967296) : bitsV .xor .u32 (a : Int) (b : Int) = some ((a ^^^ b : Nat) : Int) := by
 have h := Nat.xor_lt_two_pow (n := 32) ha hb
 show some (IntKind.u32.wrap (((BitVec.ofInt 32 (a : Int)) ^^^ (BitVec.ofInt 32 (b : Int))).toNat : Int)) = _
 rw [BitVec.toNat_xor, bv_nat 32 a ha, bv_nat 32 b hb, wu32 (by omega) (by omega)]
def uvar (v : Nat) : List UInt8 := if v < 128 then [UInt8.ofNat v] else UInt8.ofNat (v % 128 + 128) :: uvar (v / 128)
termination_by v
decreasing_by omega
theorem uvar_lt {v : Nat} (h : v < 128) : uvar v = [UInt8.ofNat v] := by rw [uvar, if_pos h]
theorem uvar_ge {v : Nat} (h : ¬ v < 128) : uvar v = UInt8.ofNat (v % 128 + 128) :: uvar (v / 128) := by rw [uvar, if_neg h]
theorem uvar_len (v : Nat) : ∀ n, v < 128 ^ n → 1 ≤ n → (uvar v).length ≤ n := by
 induction v using uvar.induct with
 | case1 v h => intro n _ h1; rw [uvar_lt h]; exact h1
 | case2 v h ih =>
  intro n hv h1
  rw [uvar_ge h, List.length_cons]
  match n, h1 with
  | 1, _ => simp at hv; omega
  | n + 2, _ =>
   have := ih (n + 1) (by rw [Nat.pow_succ] at hv; exact Nat.div_lt_of_lt_mul (by rw [Nat.mul_comm]; exact hv)) (by omega)
   omega
theorem uvar_len10 {v : Nat} (h : v < 18446744073709551616) : (uvar v).length ≤ 10 := uvar_len v 10 (Nat.lt_trans h (by decide)) (by decide)
set_option maxRecDepth 20000 in
theorem or128 (x : Nat) (h : x < 256) : x ||| 128 = x % 128 + 128 := by
 have : ∀ y : Fin 256, y.val ||| 128 = y.val % 128 + 128 := by decide
 exact this ⟨x, h⟩
set_option maxRecDepth 20000 in
theorem and127 (x : Nat) (h : x < 256) : x &&& 127 = x % 128 := by
 have : ∀ y : Fin 256, y.val &&& 127 = y.val % 128 := by decide
 exact this ⟨x, h⟩
theorem u8V_ofNat (n : Nat) : u8V (UInt8.ofNat n) = .int .u8 ((n % 256 : Nat) : Int) := by simp [u8V]
theorem uvarint_runs {w0 : World} {S : St} {Q : AEnd → St → Prop} {v : Nat} (hv : v < 18446744073709551616)
  (hQ : ∀ S' t, TokOk S' t → t ≠ .nil → (∀ j, t = .at j → S.n ≤ j) → Keeps (fun _ => False) S S' → Q (.ret (.sl ((uvar v).map u8V) (uvar v).length 1 t)) S') : RSim Try.prog w0 n_pack_Uvarint [.int .u64 v] S Q := by
 have hl := uvar_len10 hv
 refine RSim.run mixed k_pack_Uvarint ?_ (by simp)
 simp only [b_pack_Uvarint, go_sem]
 refine loop_rule RSim.le (k := v) (fun m fr S1 => ∃ (u : Nat) (bs : List UInt8) (t : Tok), m = u ∧ u < 18446744073709551616 ∧ fr 0 = .int .u64 u ∧ fr 3 = .sl (bs.map u8V) bs.length 1 t ∧ bs ++ uvar u = uvar v ∧ TokOk S1 t ∧ (t = .nil → bs = []) ∧ (∀ j, t = .at j → S.n ≤ j) ∧ Keeps (fun _ => False) S S1) ?_
  ⟨v, [], .nil, rfl, hv, by simp only [go_sem], by simp only [go_sem], rfl, trivial, fun _ => rfl, fun j h => (by cases h), Keeps.refl _ _⟩
 rintro m fr S1 ⟨u, bs, t, hm, hu, f0, f3, hbs, ht, hn, htn, k1⟩
 subst hm
 have hlen : bs.length + (uvar m).length = (uvar v).length := by rw [← hbs, List.length_append]
 simp only [l_pack_Uvarint_0, go_sem, f0, f3]
 refine wc_ite (b := decide ((m : Int) ≥ 128)) (by simp only [go_sem]) (fun hc => ?_) (fun hc => ?_)
 ·have hm : ¬ m < 128 := by have := of_decide_eq_true hc; omega
  have cv : ∀ S, V.conv S (.int .u8) (.int .u64 (m : Int)) = some (.int .u8 ((m % 256 : Nat) : Int)) := fun S => by
   simp only [V.conv, IntKind.wrap_u8]; congr 2
  have ho : bitsV .or .u8 ((m % 256 : Nat) : Int) 128 = some ((m % 128 + 128 : Nat) : Int) := by
   have := or8 (a := m % 256) (b := 128) (by omega) (by omega)
   rw [or128 _ (by omega)] at this
   rw [show ((128 : Int)) = ((128 : Nat) : Int) from rfl, this]; congr 2; omega
  simp only [go_sem, f0, f3, cv, ho]
  refine wi_append (n := bs.length) (cs := bs.map u8V) (t := t) (m := 1) (xs := [.int .u8 ((m % 128 + 128 : Nat) : Int)]) (by simp only [go_sem]) (by simp only [go_sem, V.elems]) rfl (by simp [roomOk]; omega) ht (fun e => by rw [hn e]; exact ⟨rfl, rfl⟩) fun t' S2 k2 ht2 hn2 hz => ?_
  have hsh : (m : Int).fdiv (2 ^ (min (Int.toNat 7) 64)) = ((m / 128 : Nat) : Int) := by
   show (m : Int).fdiv 128 = _
   rw [Int.fdiv_eq_ediv_of_nonneg _ (by omega)]; omega
  simp only [go_sem, f0, hsh]
  have hcat : bs.map u8V ++ [V.int .u8 ((m % 128 + 128 : Nat) : Int)] = (bs ++ [UInt8.ofNat (m % 128 + 128)]).map u8V := by
   rw [List.map_append, List.map_cons, List.map_nil, u8V_ofNat, Nat.mod_eq_of_lt (a := m % 128 + 128) (by omega)]
  have hn1 : bs.length + 1 = (bs ++ [UInt8.ofNat (m % 128 + 128)]).length := by simp
  refine ⟨m / 128, by omega, m / 128, bs ++ [UInt8.ofNat (m % 128 + 128)], t', rfl, by omega, by simp only [go_sem, f0, hsh], by simp only [go_sem, hcat, hn1], ?_, ht2, fun e => absurd (hz e).1 (by decide), fun j hj => Nat.le_trans k1.n (hn2 j hj), keeps_new k1 k2 fun j h => htn j h⟩
  rw [← hbs, uvar_ge hm, List.append_assoc]; rfl
 ·have hm : m < 128 := by have := of_decide_eq_false hc; omega
  have cv : ∀ S, V.conv S (.int .u8) (.int .u64 (m : Int)) = some (.int .u8 (m : Int)) := fun S => by
   simp only [V.conv, wu8 (show (0 : Int) ≤ m by omega) (show (m : Int) < 256 by omega)]
  simp only [go_sem, f0, f3, cv]
  refine wi_append (n := bs.length) (cs := bs.map u8V) (t := t) (m := 1) (xs := [.int .u8 (m : Int)]) (by simp only [go_sem]) (by simp only [go_sem, V.elems]) rfl (by simp [roomOk]; omega) ht (fun e => by rw [hn e]; exact ⟨rfl, rfl⟩) fun t' S2 k2 ht2 hn2 hz => ?_
  simp only [go_sem]
  have hcat : bs.map u8V ++ [V.int .u8 (m : Int)] = (uvar v).map u8V := by
   rw [← hbs, uvar_lt hm, List.map_append, List.map_cons, List.map_nil, u8V_ofNat, Nat.mod_eq_of_lt (a := m) (by omega)]
  have hn1 : bs.length + 1 = (uvar v).length := by rw [← hbs, uvar_lt hm]; simp
  rw [hcat, hn1]
  exact hQ S2 t' ht2 (fun e => absurd (hz e).1 (by decide)) (fun j hj => Nat.le_trans k1.n (hn2 j hj)) (keeps_new k1 k2 fun j h => htn j h)
end Go.VM
namespace Go.VM
open Go Go.RowKit Go.Proofs
def ruv (n v : Nat) : List UInt8 → Option (Nat × Nat)
 | [] => none
 | b :: l => if (n = 9 ∧ b.toNat > 1) ∨ (b.toNat = 0 ∧ n > 0) then none
  else if b.toNat < 128 then some (v + b.toNat % 128 * 2 ^ (7 * n), n + 1) else ruv (n + 1) (v + b.toNat % 128 * 2 ^ (7 * n)) l
theorem ruv_bad {n v : Nat} {b : UInt8} {l : List UInt8} (h : (n = 9 ∧ b.toNat > 1) ∨ (b.toNat = 0 ∧ n > 0)) : ruv n v (b :: l) = none := by rw [ruv, if_pos h]
theorem ruv_end {n v : Nat} {b : UInt8} {l : List UInt8} (h : ¬ ((n = 9 ∧ b.toNat > 1) ∨ (b.toNat = 0 ∧ n > 0))) (h1 : b.toNat < 128) : ruv n v (b :: l) = some (v + b.toNat % 128 * 2 ^ (7 * n), n + 1) := by rw [ruv, if_neg h, if_pos h1]
theorem ruv_more {n v : Nat} {b : UInt8} {l : List UInt8} (h : ¬ ((n = 9 ∧ b.toNat > 1) ∨ (b.toNat = 0 ∧ n > 0))) (h1 : ¬ b.toNat < 128) : ruv n v (b :: l) = ruv (n + 1) (v + b.toNat % 128 * 2 ^ (7 * n)) l := by rw [ruv, if_neg h, if_neg h1]
theorem ruv_bits {n v c : Nat} (hn : n ≤ 9) (hv : v < 2 ^ (7 * n)) (hc : c < 128) (h9 : n = 9 → c ≤ 1) :
  v + c * 2 ^ (7 * n) < 18446744073709551616 ∧ v ||| (c * 2 ^ (7 * n)) = v + c * 2 ^ (7 * n) ∧ v + c * 2 ^ (7 * n) < 2 ^ (7 * (n + 1)) := by
 have hp : 2 ^ (7 * (n + 1)) = 128 * 2 ^ (7 * n) := by rw [Nat.mul_add, Nat.pow_add]; omega
 have h3 : v + c * 2 ^ (7 * n) < 2 ^ (7 * (n + 1)) := by
  rw [hp]
  have : (c + 1) * 2 ^ (7 * n) ≤ 128 * 2 ^ (7 * n) := Nat.mul_le_mul_right _ hc
  rw [Nat.add_mul] at this; omega
 have h2 : v ||| (c * 2 ^ (7 * n)) = v + c * 2 ^ (7 * n) := by
  rw [Nat.or_comm, Nat.mul_comm, ← Nat.two_pow_add_eq_or_of_lt hv, Nat.add_comm]
 refine ⟨?_, h2, h3⟩
 by_cases h : n = 9
 ·subst h
  have := h9 rfl
  have : c * 2 ^ (7 * 9) ≤ 1 * 2 ^ (7 * 9) := Nat.mul_le_mul_right _ this
  omega
 ·have : 2 ^ (7 * (n + 1)) ≤ 2 ^ 63 := Nat.pow_le_pow_right (by decide) (by omega)
  omega
theorem readUvarint_runs {w0 : World} {S : St} {Q : AEnd → St → Prop} {bs : List UInt8} {t : Tok} {p : Nat} (hp : p ≤ bs.length) (hl : bs.length ≤ 1000000000000000) (ht : t = .nil → bs = [])
    (hQ : ∀ v k, ruv 0 0 (bs.drop p) = some (v, k) → v < 18446744073709551616 → p + k ≤ bs.length → Q (.ret (.tup [.int .u64 (v : Nat), .int .i64 ((p + k : Nat) : Int), .int .i64 0])) S)
    (hQ' : ruv 0 0 (bs.drop p) = none → Q (.ret (.tup [.int .u64 0, .int .i64 0, .int .i64 3])) S) :
    RSim Try.prog w0 n_pack_ReadUvarint [.sl (bs.map u8V) bs.length 1 t, .int .i64 p] S Q := by
  have e1 : decide ((p : Int) > (bs.length : Int)) = false := decide_eq_false (by omega)
  have e0 : decide ((p : Int) < 0) = false := decide_eq_false (by omega)
  refine RSim.run mixed k_pack_ReadUvarint ?_ (by simp)
  simp only [b_pack_ReadUvarint, go_sem, e1, e0]
  refine wc_ite (b := false) (by simp only [go_sem] <;> rfl) (fun h => by cases h) (fun _ => ?_)
  simp only [go_sem]
  refine loop_rule RSim.le (k := bs.length) (fun m fr S1 => ∃ n v : Nat, m = bs.length - n ∧ n ≤ 9 ∧ p + n ≤ bs.length ∧ S1 = S ∧ fr 0 = .sl (bs.map u8V) bs.length 1 t ∧ fr 1 = .int .i64 p ∧ fr 7 = .int .u64 v ∧ fr 8 = .int .i64 ((p + n : Nat) : Int) ∧ v < 2 ^ (7 * n) ∧ ruv 0 0 (bs.drop p) = ruv n v (bs.drop (p + n))) ?_
    ⟨0, 0, rfl, by omega, by omega, rfl, by simp only [go_sem], by simp only [go_sem], by simp only [go_sem]; rfl, by simp only [go_sem], by decide, rfl⟩
  rintro m fr S1 ⟨n, v, hm, hn, hpn, rfl, f0, f1, f7, f8, hv, hr⟩
  simp only [l_pack_ReadUvarint_0, go_sem, f0, f1, f7, f8]
  refine wc_ite (b := decide (((p + n : Nat) : Int) < (bs.length : Int))) (by simp only [go_sem]) (fun hc => ?_) (fun hc => ?_)
  · have hlt : p + n < bs.length := by have := of_decide_eq_true hc; omega
    obtain ⟨b, hb⟩ : ∃ b, bs[p + n]? = some b := ⟨bs[p + n], List.getElem?_eq_getElem hlt⟩
    have hd : bs.drop (p + n) = b :: bs.drop (p + n + 1) := by
      rw [List.drop_eq_getElem_cons hlt]; congr 1
      rw [List.getElem?_eq_getElem hlt] at hb; injection hb
    rw [hd] at hr
    have hb' : (bs.map u8V).drop ((p + n) * 1) = .int .u8 b.toNat :: (bs.drop (p + n + 1)).map u8V := by
      rw [Nat.mul_one, ← List.map_drop, hd]; rfl
    have hlt' : (p + n < bs.length) = True := eq_true hlt
    have htn : (t = .nil) = False := eq_false fun h => by rw [ht h] at hlt; simp at hlt
    have hbl := b.toNat_lt
    have w1 : IntKind.i64.wrap (((p + n : Nat) : Int) - (p : Int)) = (n : Int) := by rw [w64 (by omega) (by omega)]; omega
    have w2 : IntKind.i64.wrap (((p + n : Nat) : Int) + 1) = ((p + n + 1 : Nat) : Int) := by rw [w64 (by omega) (by omega)]; omega
    have w7 : IntKind.i64.wrap (7 * (n : Int)) = ((7 * n : Nat) : Int) := by rw [w64 (by omega) (by omega)]; omega
    have ha : bitsV .and .u8 (b.toNat : Int) 127 = some ((b.toNat % 128 : Nat) : Int) := by
      rw [show (127 : Int) = ((127 : Nat) : Int) from rfl, and8 hbl (by decide), and127 _ hbl]
    have cv : ∀ S, V.conv S (.int .u64) (.int .u8 ((b.toNat % 128 : Nat) : Int)) = some (.int .u64 ((b.toNat % 128 : Nat) : Int)) := fun S => by
      simp only [V.conv, wu64 (show (0 : Int) ≤ ((b.toNat % 128 : Nat) : Int) by omega) (show ((b.toNat % 128 : Nat) : Int) < 18446744073709551616 by omega)]
    have hge : (((7 * n : Nat) : Int) < 0) = False := eq_false (by omega)
    have hmin : min (7 * n) 64 = 7 * n := by omega
    have q1 : (((n : Int) == 9)) = decide (n = 9) := by
      rw [Bool.eq_iff_iff, beq_iff_eq, decide_eq_true_iff]; omega
    have q2 : decide ((b.toNat : Int) > 1) = decide (b.toNat > 1) := decide_eq_decide.mpr (by omega)
    have q3 : (((b.toNat : Int) == 0)) = decide (b.toNat = 0) := by
      rw [Bool.eq_iff_iff, beq_iff_eq, decide_eq_true_iff]; omega
    have q4 : decide ((n : Int) > 0) = decide (n > 0) := decide_eq_decide.mpr (by omega)
    by_cases hbad : (n = 9 ∧ b.toNat > 1) ∨ (b.toNat = 0 ∧ n > 0)
    · rw [ruv_bad hbad] at hr
      have hq := hQ' hr
      generalize h1 : decide (n = 9) = c1 at q1
      generalize h2 : decide (b.toNat > 1) = c2 at q2
      generalize h3 : decide (b.toNat = 0) = c3 at q3
      generalize h4 : decide (n > 0) = c4 at q4
      have hno : (c1 && c2 || c3 && c4) = true := by
        rw [← h1, ← h2, ← h3, ← h4]; simpa using hbad
      clear h1 h2 h3 h4
      simp only [go_sem, k_pack_ReadUvarint_0, f0, f1, f7, f8, w1, hb', hlt', htn, List.head?_cons, q1, q2, q3, q4]
      cases c4
      all_goals (try simp only [go_sem, f0, f1, f7, f8, w1, hb', hlt', htn, List.head?_cons, q1, q2, q3, q4])
      all_goals (try ((simp at hno; done); done))
      all_goals (try ((refine wc_ite (b := true) (by simp only [go_sem] <;> rfl) (fun _ => ?_) (fun h => by cases h); simp only [go_sem]; exact hq); done))
      all_goals cases c1
      all_goals (try simp only [go_sem, f0, f1, f7, f8, w1, hb', hlt', htn, List.head?_cons, q1, q2, q3, q4])
      all_goals (try ((simp at hno; done); done))
      all_goals (try ((refine wc_ite (b := true) (by simp only [go_sem] <;> rfl) (fun _ => ?_) (fun h => by cases h); simp only [go_sem]; exact hq); done))
      all_goals cases c2
      all_goals (try simp only [go_sem, f0, f1, f7, f8, w1, hb', hlt', htn, List.head?_cons, q1, q2, q3, q4])
      all_goals (try ((simp at hno; done); done))
      all_goals (try ((refine wc_ite (b := true) (by simp only [go_sem] <;> rfl) (fun _ => ?_) (fun h => by cases h); simp only [go_sem]; exact hq); done))
      all_goals cases c3
      all_goals (try simp only [go_sem, f0, f1, f7, f8, w1, hb', hlt', htn, List.head?_cons, q1, q2, q3, q4])
      all_goals (try ((simp at hno; done); done))
      all_goals (try ((refine wc_ite (b := true) (by simp only [go_sem] <;> rfl) (fun _ => ?_) (fun h => by cases h); simp only [go_sem]; exact hq); done))
    · have hn9 : n = 9 → b.toNat % 128 ≤ 1 := fun h => by
        have : ¬ b.toNat > 1 := fun h' => hbad (.inl ⟨h, h'⟩)
        omega
      obtain ⟨b1, b2, b3⟩ := ruv_bits hn hv (c := b.toNat % 128) (Nat.mod_lt _ (by decide)) hn9
      have hsh : IntKind.u64.wrap (((b.toNat % 128 : Nat) : Int) * 2 ^ (min (7 * n) 64)) = ((b.toNat % 128 * 2 ^ (7 * n) : Nat) : Int) := by
        rw [hmin, show (((b.toNat % 128 : Nat) : Int) * 2 ^ (7 * n)) = ((b.toNat % 128 * 2 ^ (7 * n) : Nat) : Int) by push_cast; rfl]
        exact wu64 (by omega) (by omega)
      have ho : bitsV .or .u64 (v : Int) ((b.toNat % 128 * 2 ^ (7 * n) : Nat) : Int) = some ((v + b.toNat % 128 * 2 ^ (7 * n) : Nat) : Int) := by
        rw [or64 (by omega) (by omega), b2]
      generalize hv1 : v + b.toNat % 128 * 2 ^ (7 * n) = v1 at *
      generalize hs1 : b.toNat % 128 * 2 ^ (7 * n) = s1 at *
      generalize h1 : decide (n = 9) = c1 at q1
      generalize h2 : decide (b.toNat > 1) = c2 at q2
      generalize h3 : decide (b.toNat = 0) = c3 at q3
      generalize h4 : decide (n > 0) = c4 at q4
      have hno : (c1 && c2 || c3 && c4) = false := by
        rw [← h1, ← h2, ← h3, ← h4]; simpa using hbad
      clear h1 h2 h3 h4
      simp only [go_sem, k_pack_ReadUvarint_0, f0, f1, f7, f8, w1, hb', hlt', htn, List.head?_cons, q1, q2, q3, q4]
      cases c4
      all_goals (try simp only [go_sem, f0, f1, f7, f8, w1, hb', hlt', htn, List.head?_cons, q1, q2, q3, q4])
      all_goals (try ((simp at hno; done); done))
      all_goals cases c1
      all_goals (try simp only [go_sem, f0, f1, f7, f8, w1, hb', hlt', htn, List.head?_cons, q1, q2, q3, q4])
      all_goals (try ((simp at hno; done); done))
      all_goals cases c2
      all_goals (try simp only [go_sem, f0, f1, f7, f8, w1, hb', hlt', htn, List.head?_cons, q1, q2, q3, q4])
      all_goals (try ((simp at hno; done); done))
      all_goals cases c3
      all_goals (try simp only [go_sem, f0, f1, f7, f8, w1, hb', hlt', htn, List.head?_cons, q1, q2, q3, q4])
      all_goals (try ((simp at hno; done); done))
      all_goals refine wc_ite (b := false) (by simp only [go_sem] <;> rfl) (fun h => by cases h) (fun _ => ?_)
      all_goals simp only [go_sem, f0, f1, f7, f8, ha, cv, w7, hge, hsh, ho]
      all_goals refine wc_ite (b := decide ((b.toNat : Int) < 128)) (by simp only [go_sem]) (fun hc => ?_) (fun hc => ?_)
      all_goals first
        | (have hlt8 : b.toNat < 128 := by have := of_decide_eq_true hc; omega
           rw [ruv_end hbad hlt8, hs1, hv1] at hr
           have hq := hQ v1 (n + 1) hr b1 (by omega)
           have w3 : IntKind.i64.wrap (((p + n : Nat) : Int) + 1) = ((p + (n + 1) : Nat) : Int) := w2
           simp only [go_sem, f0, f1, f7, f8, w3]
           exact hq)
        | (have hge8 : ¬ b.toNat < 128 := by have := of_decide_eq_false hc; omega
           rw [ruv_more hbad hge8, hs1, hv1] at hr
           have hn1 : n ≠ 9 := fun h => by
             have : ¬ b.toNat > 1 := fun h' => hbad (.inl ⟨h, h'⟩)
             omega
           simp only [go_sem, f0, f1, f7, f8, w2]
           exact ⟨bs.length - (n + 1), by omega, n + 1, v1, rfl, by omega, by omega, rfl, rfl, b3, hr⟩)
  · have hq := hQ' (by rw [hr, List.drop_eq_nil_of_le (by have := of_decide_eq_false hc; omega)]; rfl)
    simp only [go_sem]
    exact hq
end Go.VM
namespace Go.VM
open Go Go.RowKit Go.Proofs
def crc1 (s : Nat) : Nat := if s % 2 = 1 then (s / 2) ^^^ 3988292384 else s / 2
def crcN : Nat → Nat → Nat
 | 0, s => s
 | n + 1, s => crcN n (crc1 s)
def crcB (s : Nat) (b : UInt8) : Nat := crcN 8 (s ^^^ b.toNat)
def crcAll (s : Nat) (l : List UInt8) : Nat := l.foldl crcB s
theorem crcAll_nil (s : Nat) : crcAll s [] = s := (rfl)
theorem crcAll_cons (s : Nat) (b : UInt8) (l : List UInt8) : crcAll s (b :: l) = crcAll (crcB s b) l := (rfl)
def sumN (l : List UInt8) : Nat := 4294967295 - crcAll 4294967295 l
theorem crc1_lt {s : Nat} (h : s < 4294967296) : crc1 s < 4294967296 := by
 unfold crc1; split
 ·exact Nat.xor_lt_two_pow (n := 32) (by omega) (by decide)
 ·omega
theorem crcN_lt (n : Nat) : ∀ {s : Nat}, s < 4294967296 → crcN n s < 4294967296 := by
 induction n with
 | zero => intro s h; exact h
 | succ n ih => intro s h; exact ih (crc1_lt h)
theorem crcB_lt {s : Nat} (b : UInt8) (h : s < 4294967296) : s ^^^ b.toNat < 4294967296 := Nat.xor_lt_two_pow (n := 32) h (by have := b.toNat_lt; omega)
theorem crcAll_lt (l : List UInt8) : ∀ {s : Nat}, s < 4294967296 → crcAll s l < 4294967296 := by
 induction l with
 | nil => intro s h; exact h
 | cons b l ih => intro s h; rw [crcAll_cons]; exact ih (crcN_lt 8 (crcB_lt b h))
theorem not32 {x : Nat} (h : x < 4294967296) : 4294967295 ^^^ x = 4294967295 - x := by
 refine Nat.eq_of_testBit_eq fun i => ?_
 rw [Nat.testBit_xor, show (4294967295 : Nat) = 2 ^ 32 - 1 from rfl, Nat.testBit_two_pow_sub_one, show 2 ^ 32 - 1 - x = 2 ^ 32 - (x + 1) by omega, Nat.testBit_two_pow_sub_succ h]
 by_cases hi : i < 32
 ·simp [hi]
 ·have : x.testBit i = false := Nat.testBit_lt_two_pow (Nat.lt_of_lt_of_le h (Nat.pow_le_pow_right (n := 2) (i := 32) (by decide) (by omega)))
  simp [hi, this]
theorem sumN_lt (l : List UInt8) : sumN l < 4294967296 := by unfold sumN; omega
theorem crcN_snoc (n : Nat) : ∀ s, crcN (n + 1) s = crc1 (crcN n s) := by
 induction n with
 | zero => intro s; rfl
 | succ n ih => intro s; exact ih (crc1 s)
theorem crcAll_take {bs : List UInt8} {j : Nat} {b : UInt8} (h : bs[j]? = some b) : ∀ s, crcAll s (bs.take (j + 1)) = crcB (crcAll s (bs.take j)) b := by
 induction bs generalizing j with
 | nil => simp at h
 | cons a l ih =>
  intro s
  cases j with
  | zero => simp only [List.getElem?_cons_zero, Option.some.injEq] at h; subst h; rw [List.take_succ_cons, List.take_zero, List.take_zero, crcAll_cons, crcAll_nil, crcAll_nil]
  | succ j => simp only [List.getElem?_cons_succ] at h; rw [List.take_succ_cons, List.take_succ_cons, crcAll_cons, crcAll_cons]; exact ih h _
theorem sum_step {w0 : World} {fr : Fr} {S : St} {Q : CPost} {s j : Nat} (hj : j ≤ 8) (hs : s < 4294967296) (h3 : fr 3 = .int .u32 s) (h16 : fr 16 = .int .i64 j)
  (hQ : j < 8 → ∀ fr' : Fr, (∀ k, k < 3 ∨ (5 < k ∧ k < 16) → fr' k = fr k) → fr' 3 = .int .u32 (crc1 s) → fr' 16 = .int .i64 ((j + 1 : Nat) : Int) → Q .normal fr' S)
  (hQ' : j = 8 → ∀ fr' : Fr, (∀ k, k < 3 ∨ (5 < k ∧ k < 16) → fr' k = fr k) → fr' 3 = .int .u32 s → Q (.exit 2) fr' S) : wCode (RSim Try.prog w0) l_pack_Sum_0 fr S Q := by
 simp only [l_pack_Sum_0, go_sem, h16]
 refine wc_ite (b := decide ((j : Int) < 8)) (by simp only [go_sem]) (fun hc => ?_) (fun hc => ?_)
 ·have hlt : j < 8 := by have := of_decide_eq_true hc; omega
  have w1 : IntKind.i64.wrap ((j : Int) + 1) = ((j + 1 : Nat) : Int) := by rw [w64 (by omega) (by omega)]; omega
  have ha : bitsV .and .u32 (s : Int) 1 = some ((s % 2 : Nat) : Int) := by
   rw [show (1 : Int) = ((1 : Nat) : Int) from rfl, and32 hs (by decide), Nat.and_one_is_mod]
  have hd : (s : Int).fdiv (2 ^ (min (Int.toNat 1) 32)) = ((s / 2 : Nat) : Int) := by
   show (s : Int).fdiv 2 = _
   rw [Int.fdiv_eq_ediv_of_nonneg _ (by omega)]; omega
  have hx : bitsV .xor .u32 ((s / 2 : Nat) : Int) 3988292384 = some (((s / 2) ^^^ 3988292384 : Nat) : Int) := by
   rw [show (3988292384 : Int) = ((3988292384 : Nat) : Int) from rfl, xor32 (by omega) (by decide)]
  simp only [go_sem, h3, h16, ha]
  have hq : (((s % 2 : Nat) : Int) == 1) = decide (s % 2 = 1) := by rw [Bool.eq_iff_iff, beq_iff_eq, decide_eq_true_iff]; omega
  simp only [go_sem, hq]
  refine wc_ite (b := decide (s % 2 = 1)) (by simp only [go_sem]) (fun hc => ?_) (fun hc => ?_)
  ·have hm : s % 2 = 1 := of_decide_eq_true hc
   have e : crc1 s = (s / 2) ^^^ 3988292384 := if_pos hm
   simp only [go_sem, h3, h16, hd, hx, w1]
   refine hQ hlt _ (fun k hk => ?_) (by simp only [go_sem, e]) (by simp only [go_sem])
   have : k ≠ 3 ∧ k ≠ 16 ∧ k ≠ 17 ∧ k ≠ 18 ∧ k ≠ 19 ∧ k ≠ 20 ∧ k ≠ 21 ∧ k ≠ 22 ∧ k ≠ 23 ∧ k ≠ 26 := by omega
   simp only [go_sem, this]
  ·have hm : ¬ s % 2 = 1 := of_decide_eq_false hc
   have e : crc1 s = s / 2 := if_neg hm
   simp only [go_sem, h3, h16, hd, hx, w1]
   refine hQ hlt _ (fun k hk => ?_) (by simp only [go_sem, e]) (by simp only [go_sem])
   have : k ≠ 3 ∧ k ≠ 16 ∧ k ≠ 17 ∧ k ≠ 18 ∧ k ≠ 19 ∧ k ≠ 20 ∧ k ≠ 24 ∧ k ≠ 25 ∧ k ≠ 26 := by omega
   simp only [go_sem, this]
 ·have hge : j = 8 := by have := of_decide_eq_false hc; omega
  simp only [go_sem]
  refine hQ' hge _ (fun k hk => ?_) (by simp only [go_sem, h3])
  have : k ≠ 17 := by omega
  simp only [go_sem, this]
theorem sum_runs {w0 : World} {S : St} {Q : AEnd → St → Prop} {bs : List UInt8} {t : Tok} (hl : bs.length ≤ 1000000000000000) (ht : t = .nil → bs = [])
  (hQ : Q (.ret (.int .u32 (sumN bs))) S) : RSim Try.prog w0 n_pack_Sum [.sl (bs.map u8V) bs.length 1 t] S Q := by
 refine RSim.run mixed k_pack_Sum ?_ (by simp)
 simp only [b_pack_Sum, go_sem]
 refine loop_rule RSim.le (k := bs.length) (fun m fr S1 => ∃ j : Nat, m = bs.length - j ∧ j ≤ bs.length ∧ S1 = S ∧ fr 6 = .sl (bs.map u8V) bs.length 1 t ∧ fr 7 = .int .i64 bs.length ∧ fr 8 = .int .i64 j ∧ fr 3 = .int .u32 (crcAll 4294967295 (bs.take j))) ?_
  ⟨0, rfl, by omega, rfl, by simp only [go_sem], by simp only [go_sem], by simp only [go_sem]; rfl, by simp only [go_sem]; rfl⟩
 rintro m fr S1 ⟨j, hm, hj, rfl, f6, f7, f8, f3⟩
 simp only [l_pack_Sum_1, go_sem, f6, f7, f8, f3]
 have hs : crcAll 4294967295 (bs.take j) < 4294967296 := crcAll_lt _ (by decide)
 refine wc_ite (b := decide ((j : Int) < (bs.length : Int))) (by simp only [go_sem]) (fun hc => ?_) (fun hc => ?_)
 ·have hlt : j < bs.length := by have := of_decide_eq_true hc; omega
  obtain ⟨b, hb⟩ : ∃ b, bs[j]? = some b := ⟨bs[j], List.getElem?_eq_getElem hlt⟩
  have hd : bs.drop j = b :: bs.drop (j + 1) := by
   rw [List.drop_eq_getElem_cons hlt]; congr 1
   rw [List.getElem?_eq_getElem hlt] at hb; injection hb
  have hb' : (bs.map u8V).drop (j * 1) = .int .u8 b.toNat :: (bs.drop (j + 1)).map u8V := by
   rw [Nat.mul_one, ← List.map_drop, hd]; rfl
  have hlt' : (j < bs.length) = True := eq_true hlt
  have htn : (t = .nil) = False := eq_false fun h => by rw [ht h] at hlt; simp at hlt
  have hbl := b.toNat_lt
  have cv : ∀ S, V.conv S (.int .u32) (.int .u8 (b.toNat : Int)) = some (.int .u32 (b.toNat : Int)) := fun S => by
   simp only [V.conv, wu32 (show (0 : Int) ≤ (b.toNat : Int) by omega) (show (b.toNat : Int) < 4294967296 by omega)]
  have hx : bitsV .xor .u32 ((crcAll 4294967295 (bs.take j) : Nat) : Int) (b.toNat : Int) = some ((crcAll 4294967295 (bs.take j) ^^^ b.toNat : Nat) : Int) := xor32 hs (by omega)
  have w1 : IntKind.i64.wrap ((j : Int) + 1) = ((j + 1 : Nat) : Int) := by rw [w64 (by omega) (by omega)]; omega
  have htake := crcAll_take hb 4294967295
  unfold crcB at htake
  have hs2 := crcB_lt b hs
  generalize hg : crcAll 4294967295 (bs.take j) ^^^ b.toNat = s0 at *
  simp only [go_sem, f6, f7, f8, f3, hlt', htn, hb', List.head?_cons, cv, hx]
  refine loop_rule RSim.le (k := 8) (fun m' fr' S2 => ∃ i : Nat, m' = 8 - i ∧ i ≤ 8 ∧ S2 = S1 ∧ fr' 6 = .sl (bs.map u8V) bs.length 1 t ∧ fr' 7 = .int .i64 bs.length ∧ fr' 8 = .int .i64 j ∧ fr' 3 = .int .u32 (crcN i s0) ∧ fr' 16 = .int .i64 i) ?_
   ⟨0, rfl, by omega, rfl, by simp only [go_sem, f6], by simp only [go_sem, f7], by simp only [go_sem, f8], by simp only [go_sem]; rfl, by simp only [go_sem]; rfl⟩
  rintro m' fr' S2 ⟨i, hm', hi, rfl, g6, g7, g8, g3, g16⟩
  refine sum_step hi (crcN_lt i hs2) g3 g16 (fun h fr2 hk h3 h16 => ?_) fun h fr2 hk h3 => ?_
  ·exact ⟨8 - (i + 1), by omega, i + 1, rfl, by omega, rfl, (hk 6 (by omega)).trans g6, (hk 7 (by omega)).trans g7, (hk 8 (by omega)).trans g8, by rw [h3, crcN_snoc], h16⟩
  ·subst h
   have e6 := (hk 6 (by omega)).trans g6
   have e7 := (hk 7 (by omega)).trans g7
   have e8 := (hk 8 (by omega)).trans g8
   simp only [go_sem, e6, e7, e8, w1]
   exact ⟨bs.length - (j + 1), by omega, j + 1, rfl, by omega, rfl, by rw [h3, htake]⟩
 ·have hge : j = bs.length := by have := of_decide_eq_false hc; omega
  subst hge
  rw [List.take_length] at hs f3
  have hx : bitsV .xor .u32 (IntKind.max .u32) ((crcAll 4294967295 bs : Nat) : Int) = some ((sumN bs : Nat) : Int) := by
   rw [show IntKind.max .u32 = ((4294967295 : Nat) : Int) from rfl, xor32 (by decide) hs]
   rw [not32 hs]; rfl
  have hsg : IntKind.u32.signed = false := rfl
  simp only [go_sem, f3, hx, hsg]
  exact hQ
end Go.VM
namespace Go.VM
open Go Go.RowKit Go.Proofs
theorem IsSlice.at2 {α : Type} {R : List V → α → Prop} {sz : Nat} {v : V} {l : List α} {t : Tok} (h : IsSlice R sz v l t) {j : Nat} {x : α} (hx : l[j]? = some x) :
  ∃ cs c, v = .sl cs l.length sz t ∧ t ≠ .nil ∧ j < l.length ∧ sz ≤ (cs.drop (j * sz)).length ∧ (cs.drop (j * sz)).take sz = c ∧ c.length = sz ∧ R c x := by
 obtain ⟨L, rfl, hn, hs, hl, hR⟩ := h.ex
 have hj := (List.getElem?_eq_some_iff.1 hx).1
 have hc : L[j]? = some (L[j]'(by omega)) := List.getElem?_eq_getElem (by omega)
 exact ⟨_, _, rfl, fun e => by rw [hn e] at hj; simp at hj, hj, (flat_at hs hc).2, (flat_at hs hc).1, hs _ (List.getElem_mem _), hR j _ x hc hx⟩
end Go.VM
namespace Go.VM
open Go Go.RowKit Go.Proofs
end Go.VM
namespace Go.VM
open Go Go.RowKit Go.Proofs
end Go.VM
