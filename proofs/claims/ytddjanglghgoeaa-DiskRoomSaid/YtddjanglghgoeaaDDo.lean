/-
  The disk and the document's, side by side: a call at both. NEWPP
-/
import Derived.Test.YtddjanglghgoeaaDRefG
import Derived.Test.YtddjanglghgoeaaDOff
set_option maxRecDepth 20000
set_option linter.unusedVariables false
set_option linter.unusedSimpArgs false
namespace Go.VM
open Go Go.RowKit Go.Proofs

def ownB (i x o : Nat) (D : Dk) (R : RS) : Nat → Prop := fun j => ownD i D j ∨ ownR x o R j
structure Both (S : St) (i x o : Nat) (D : Dk) (R : RS) : Prop where
  d : DiskAt S i D
  r : RefAt S x o R
  a : Alike D.abs R
  sep : ∀ j, ownD i D j → ¬ ownR x o R j
/-- What is behind a call. -/
structure BAfter (S : St) (i x o : Nat) (D : Dk) (R : RS) (S' : St) (o' : Nat) (D' : Dk) (R' : RS) : Prop where
  b : Both S' i x o' D' R'
  k : Keeps (ownB i x o D R) S S'
  o : ∀ j, ownB i x o' D' R' j → ownB i x o D R j ∨ S.n ≤ j
theorem Both.own_lt {S : St} {i x o : Nat} {D : Dk} {R : RS} (h : Both S i x o D R) {j : Nat} (hj : ownB i x o D R j) : j < S.n := hj.elim h.d.own_lt h.r.own_lt
theorem Both.keep {S S' : St} {i x o : Nat} {D : Dk} {R : RS} {p : Nat → Prop} (h : Both S i x o D R) (k : Keeps p S S') (hp : ∀ j, ownB i x o D R j → ¬ p j) : Both S' i x o D R :=
  ⟨h.d.keep k fun j hj => hp j (.inl hj), h.r.keep k fun j hj => hp j (.inr hj), h.a, h.sep⟩
theorem Both.stay {S S' : St} {i x o : Nat} {D : Dk} {R : RS} (h : Both S i x o D R) (k : Keeps (fun _ => False) S S') : Both S' i x o D R := h.keep k fun _ _ => id
theorem BAfter.trans0 {S0 S S' : St} {i x o o' : Nat} {D D' : Dk} {R R' : RS} (k : Keeps (fun _ => False) S0 S) (h : BAfter S i x o D R S' o' D' R') : BAfter S0 i x o D R S' o' D' R' :=
  ⟨h.b, (k.mono fun _ _ e => e.elim).trans h.k fun _ _ e => e, fun j hj => (h.o j hj).imp id fun e => Nat.le_trans k.n e⟩
theorem BAfter.refl {S : St} {i x o : Nat} {D : Dk} {R : RS} (h : Both S i x o D R) : BAfter S i x o D R S o D R := ⟨h, Keeps.refl _ _, fun _ e => .inl e⟩
theorem BAfter.new {S S' : St} {i x o : Nat} {D : Dk} {R : RS} (h : Both S i x o D R) (k : Keeps (fun _ => False) S S') : BAfter S i x o D R S' o D R := ⟨h.stay k, k.mono fun _ _ e => e.elim, fun _ e => .inl e⟩
/-- First the disk, then the document's. -/
theorem Both.first {S S1 S2 : St} {i x o o2 : Nat} {D D1 : Dk} {R R2 : RS} (h : Both S i x o D R) (d1 : DiskAt S1 i D1) (k1 : Keeps (ownD i D) S S1) (o1 : ∀ j, ownD i D1 j → ownD i D j ∨ S.n ≤ j)
    (A : RAfter S1 x o R S2 o2 R2) (a : Alike D1.abs R2) : BAfter S i x o D R S2 o2 D1 R2 := by
  have hs : ∀ j, ownD i D1 j → ¬ ownR x o R j := fun j hj hr => (o1 j hj).elim (fun e => h.sep j e hr) fun e => by have := h.r.own_lt hr; omega
  refine ⟨⟨d1.keep A.k hs, A.r, a, fun j hj hr => ?_⟩, ?_, fun j hj => ?_⟩
  · rcases A.o j hr with e | e
    · exact hs j hj e
    · have := d1.own_lt hj; omega
  · exact (k1.mono fun j _ e => .inl e).trans A.k fun j _ e => .inr e
  · rcases hj with hj | hj
    · exact (o1 j hj).imp .inl id
    · exact (A.o j hj).imp .inr fun e => Nat.le_trans k1.n e
theorem Both.refAt {S S1 : St} {i x o : Nat} {D D1 : Dk} {R : RS} (h : Both S i x o D R) (k1 : Keeps (ownD i D) S S1) : RefAt S1 x o R := h.r.keep k1 fun j hj hd => h.sep j hd hj
/-- First the document's, then the disk. -/
theorem Both.last {S S1 S2 : St} {i x o o1 : Nat} {D D2 : Dk} {R R1 : RS} (h : Both S i x o D R) (A : RAfter S x o R S1 o1 R1) (d2 : DiskAt S2 i D2) (k2 : Keeps (ownD i D) S1 S2) (o2 : ∀ j, ownD i D2 j → ownD i D j ∨ S1.n ≤ j)
    (a : Alike D2.abs R1) : BAfter S i x o D R S2 o1 D2 R1 := by
  have hs : ∀ j, ownR x o1 R1 j → ¬ ownD i D j := fun j hj hd => (A.o j hj).elim (fun e => h.sep j hd e) fun e => by have := h.d.own_lt hd; omega
  refine ⟨⟨d2, A.r.keep k2 hs, a, fun j hj hr => ?_⟩, ?_, fun j hj => ?_⟩
  · rcases o2 j hj with e | e
    · exact hs j hr e
    · have := A.r.own_lt hr; omega
  · exact (A.k.mono fun j _ e => .inr e).trans k2 fun j _ e => .inl e
  · rcases hj with hj | hj
    · exact (o2 j hj).imp .inl fun e => Nat.le_trans A.k.n e
    · exact (A.o j hj).imp .inr id

theorem Both.facts {S : St} {i x o : Nat} {D : Dk} {R : RS} (h : Both S i x o D R) : (D.abs.files.map (·.name)).Nodup ∧ D.abs.used = sumFl D.abs.files ∧ D.abs.used ≤ D.abs.room ∧ D.abs.room ≤ 67108864 ∧ R.l.length = D.ents.length ∧ (∀ f ∈ R.l, f.sure ≤ f.p.length ∧ f.p.length ≤ 1000000000) := by
  have hn : (D.abs.files.map (·.name)).Nodup := by simpa [Dk.abs, List.map_map, Function.comp_def, Ent.file] using h.d.names
  have hu : D.abs.used = sumFl D.abs.files := by
    have := h.d.wf.used
    simp only [Dk.abs, this, sumFl, sumLen, List.map_map, Function.comp_def, Ent.file]
  refine ⟨hn, hu, h.d.wf.fits, h.d.wf.room, ?_, fun f hf => ?_⟩
  · rw [h.a.len hn]; simp [Dk.abs]
  · have hm := (h.a.mem f.file).1 (List.mem_map.2 ⟨f, hf, rfl⟩)
    obtain ⟨e, he, ee⟩ := List.mem_map.1 hm
    have h1 := h.d.wf.sure e he
    have e1 : e.p = f.p := congrArg File.p ee
    have e2 : e.sure = f.sure := congrArg File.sure ee
    rw [e1, e2] at h1
    have h2 : f.p.length ≤ sumFl D.abs.files := le_sumL (List.mem_map.2 ⟨f.file, hm, rfl⟩)
    have h3 := h.d.wf.fits
    have h4 := h.d.wf.room
    have h5 : D.used = sumFl D.abs.files := hu
    exact ⟨h1, by omega⟩

/-! ### How many files there are -/
theorem len_putF (y : File) : ∀ m : List File, (putF y m).length ≤ m.length + 1
  | [] => by simp [putF]
  | x :: m => by
    rw [putF_cons]
    split
    · simp
    · have := len_putF y m
      simp only [List.length_cons]; omega
theorem len_delF (s : List UInt8) : ∀ m : List File, (delF s m).length ≤ m.length
  | [] => by simp [delF]
  | x :: m => by
    unfold delF
    split
    · simp
    · have := len_delF s m
      simp only [List.length_cons]; omega
theorem len_putF_mem (y : File) : ∀ m : List File, (∃ z, z ∈ m ∧ z.name = y.name) → (putF y m).length = m.length
  | [], h => by obtain ⟨z, hz, _⟩ := h; cases hz
  | x :: m, h => by
    rw [putF_cons]
    split
    · simp
    · rename_i hx
      obtain ⟨z, hz, e⟩ := h
      rcases List.mem_cons.1 hz with rfl | hz
      · exact absurd e hx
      · have := len_putF_mem y m ⟨z, hz, e⟩
        simp only [List.length_cons]; omega
theorem len_runR (keep : List Int) : ∀ (ns : List (List UInt8)) (j : Nat) (D : DS), (runR keep j ns D).files.length = D.files.length
  | [], j, D => rfl
  | s :: r, j, D => by
    unfold runR
    rw [len_runR keep r (j + 1)]
    unfold stepR
    split
    · rename_i x hx
      obtain ⟨hm, hs⟩ := findF_mem' hx
      exact len_putF_mem _ _ ⟨x, hm, rfl⟩
    · rfl
theorem len_change (D : DS) (s : List UInt8) (F : DS → File → DS) (hF : ∀ E x, (F E x).files.length ≤ E.files.length + 1) : (D.change s F).2.files.length ≤ D.files.length + 1 := by
  unfold DS.change
  split
  · exact Nat.le_succ _
  · split
    · exact Nat.le_succ _
    · split
      · exact Nat.le_succ _
      · split
        · exact Nat.le_succ _
        · exact hF _ _
theorem len_grow (D : DS) (s p : List UInt8) (f : Bool) : (D.grow s p f).2.files.length ≤ D.files.length + 1 := by
  unfold DS.grow
  split
  · exact Nat.le_succ _
  · split
    · exact Nat.le_succ _
    · split
      · exact Nat.le_succ _
      · split
        · exact Nat.le_succ _
        · exact len_putF _ _
theorem len_sync (D : DS) (s : List UInt8) : (D.sync s).2.files.length ≤ D.files.length + 1 := len_change D s _ fun E x => len_putF _ _
theorem len_remove (D : DS) (s : List UInt8) : (D.remove s).2.files.length ≤ D.files.length + 1 := len_change D s _ fun E x => Nat.le_trans (len_delF _ _) (Nat.le_succ _)
theorem len_rename (D : DS) (s t : List UInt8) : (D.rename s t).2.files.length ≤ D.files.length + 1 := by
  unfold DS.rename
  split
  · exact Nat.le_succ _
  · split
    · exact Nat.le_succ _
    · split
      · exact Nat.le_succ _
      · exact len_change D s _ fun E x => Nat.le_trans (len_putF _ _) (Nat.succ_le_succ (len_delF _ _))
theorem len_restart (D : DS) (keep : List Int) : (D.restart keep).files.length = D.files.length := len_runR keep _ _ _
theorem abs_len (D : Dk) : D.abs.files.length = D.ents.length := by simp [Dk.abs]

theorem room_change (D : DS) (s : List UInt8) (F : DS → File → DS) (hF : ∀ E x, (F E x).room = E.room) : (D.change s F).2.room = D.room := by
  unfold DS.change
  split
  · rfl
  · split
    · rfl
    · split
      · rfl
      · split
        · rfl
        · exact hF _ _
theorem room_grow (D : DS) (s p : List UInt8) (f : Bool) : (D.grow s p f).2.room = D.room := by
  unfold DS.grow
  split
  · rfl
  · split
    · rfl
    · split
      · rfl
      · split <;> rfl
theorem room_sync (D : DS) (s : List UInt8) : (D.sync s).2.room = D.room := room_change D s _ fun E x => rfl
theorem room_remove (D : DS) (s : List UInt8) : (D.remove s).2.room = D.room := room_change D s _ fun E x => rfl
theorem room_rename (D : DS) (s t : List UInt8) : (D.rename s t).2.room = D.room := by
  unfold DS.rename
  split
  · rfl
  · split
    · rfl
    · split
      · rfl
      · exact room_change D s _ fun E x => rfl
theorem room_restart (D : DS) (keep : List Int) : (D.restart keep).room = D.room := (runR_same _ _ _).1
/-! ### Which names there are -/
theorem sub_putF {y z : File} : ∀ {m : List File}, z ∈ putF y m → z = y ∨ z ∈ m
  | [], h => by simp [putF] at h; exact .inl h
  | x :: m, h => by
    rw [putF_cons] at h
    split at h
    · rcases List.mem_cons.1 h with h | h
      · exact .inl h
      · exact .inr (List.mem_cons_of_mem _ h)
    · rcases List.mem_cons.1 h with h | h
      · exact .inr (h ▸ List.mem_cons_self)
      · exact (sub_putF h).imp id fun h => List.mem_cons_of_mem _ h
theorem sub_delF {s : List UInt8} {z : File} : ∀ {m : List File}, z ∈ delF s m → z ∈ m
  | x :: m, h => by
    unfold delF at h
    split at h
    · exact List.mem_cons_of_mem _ h
    · rcases List.mem_cons.1 h with h | h
      · exact h ▸ List.mem_cons_self
      · exact List.mem_cons_of_mem _ (sub_delF h)
/-- No file has that name. -/
def DS.lacks (D : DS) (n : List UInt8) : Prop := ∀ z ∈ D.files, z.name ≠ n
theorem lacks_putF {D E : DS} {n : List UInt8} {y : File} (h : ∀ z ∈ E.files, z.name ≠ n) (hy : y.name ≠ n) : ∀ z ∈ putF y E.files, z.name ≠ n := fun z hz => by
  rcases sub_putF hz with rfl | hz
  · exact hy
  · exact h z hz
theorem lacks_change {D : DS} {s n : List UInt8} (F : DS → File → DS) (h : D.lacks n) (hF : ∀ (E : DS) x, E.lacks n → x.name ≠ n → (F E x).lacks n) : (D.change s F).2.lacks n := by
  unfold DS.change
  split
  · exact h
  · split
    · exact h
    · split
      · exact h
      · rename_i x hx
        split
        · exact h
        · exact hF _ _ h (h x (findF_mem' hx).1)
theorem lacks_grow {D : DS} {s p n : List UInt8} {f : Bool} (h : D.lacks n) (hs : s ≠ n) : (D.grow s p f).2.lacks n := by
  unfold DS.grow
  split
  · exact h
  · split
    · exact h
    · split
      · exact h
      · split
        · exact h
        · refine lacks_putF (D := D) (E := D) h ?_
          cases hx : findF s D.files with
          | none => exact hs
          | some x => exact h x (findF_mem' hx).1
theorem lacks_sync {D : DS} {s n : List UInt8} (h : D.lacks n) : (D.sync s).2.lacks n := lacks_change _ h fun E x hE hx => lacks_putF (D := E) (E := E) hE hx
theorem lacks_remove {D : DS} {s n : List UInt8} (h : D.lacks n) : (D.remove s).2.lacks n := lacks_change _ h fun E x hE hx z hz => hE z (sub_delF hz)
theorem lacks_rename {D : DS} {s t n : List UInt8} (h : D.lacks n) (ht : t ≠ n) : (D.rename s t).2.lacks n := by
  unfold DS.rename
  split
  · exact h
  · split
    · exact h
    · split
      · exact h
      · exact lacks_change _ h fun E x hE hx z hz => by
          rcases sub_putF hz with rfl | hz
          · exact ht
          · exact hE z (sub_delF hz)
theorem lacks_runR {keep : List Int} {n : List UInt8} : ∀ (ns : List (List UInt8)) (j : Nat) (D : DS), D.lacks n → (runR keep j ns D).lacks n
  | [], j, D, h => h
  | s :: r, j, D, h => by
    unfold runR
    refine lacks_runR r _ _ ?_
    unfold stepR
    split
    · rename_i x hx
      exact lacks_putF (D := D) (E := D) h (h x (findF_mem' hx).1)
    · exact h
theorem lacks_restart {D : DS} {keep : List Int} {n : List UInt8} (h : D.lacks n) : (D.restart keep).lacks n := lacks_runR _ _ _ h

theorem beq_self_int (n : Int) : (n == n) = true := beq_self_eq_true n

set_option maxHeartbeats 1000000 in
theorem do_runs {w0 : World} {S : St} {Q : AEnd → St → Prop} {i x o : Nat} {D : Dk} {R : RS} {act : DAct} {c : List V} (h : Both S i x o D R) (hl : D.ents.length ≤ 100000) (hc : DActR c act) (hs : act.Small)
    (hQ : ∀ S' o' D' R', BAfter S i x o D R S' o' D' R' → D'.ents.length ≤ D.ents.length + 1 → D'.room = D.room → (∀ n, D.abs.lacks n → act.name ≠ n → act.to ≠ n → D'.abs.lacks n) → Q (.ret (.bool true)) S') : RSim Try.prog w0 n_l02_do [.ptr (some (i, 0)), .ptr (some (x, 0)), .agg c] S Q := by
  obtain ⟨d, kv, kt, rfl, hd, rfl, hkt⟩ := hc
  generalize hS1 : S.add (.cells [.int .u8 act.kind.toNat, .str (mkS act.name), .str (mkS act.to), d, .int .i64 act.n, intsV act.keep kt]) = S1
  have k1 : Keeps (fun _ => False) S S1 := hS1 ▸ (Keeps.refl _ S).add _
  have b1 : S1.cells S.n = some [.int .u8 act.kind.toNat, .str (mkS act.name), .str (mkS act.to), d, .int .i64 act.n, intsV act.keep kt] := by rw [← hS1, cells_addc, if_pos rfl]
  have bl1 : S.n < S1.n := by rw [← hS1]; simp [St.add_n]
  have h1 := h.stay k1
  obtain ⟨hn, hu, hfit, hroom, hlen, hsz⟩ := h1.facts
  have hni : ¬ ownD i D S.n := fun e => by have := h.d.own_lt e; omega
  have hio : V.one (intsV act.keep kt) = true := rfl
  have hall : ([V.int .u8 act.kind.toNat, .str (mkS act.name), .str (mkS act.to), d, .int .i64 act.n, intsV act.keep kt].all V.one) = true := by simp only [List.all_cons, List.all_nil, V.one_int, V.one_str, hd.one, hio, Bool.and_true]
  have fin : ∀ S' o' D' R', BAfter S1 i x o D R S' o' D' R' → D'.ents.length ≤ D.ents.length + 1 → D'.room = D.room → (∀ n, D.abs.lacks n → act.name ≠ n → act.to ≠ n → D'.abs.lacks n) → Q (.ret (.bool true)) S' := fun S' o' D' R' A hl' hr' hn' => hQ S' o' D' R' (A.trans0 k1) hl' hr' hn'
  have u8r := u8_rem8 act.kind
  have hr8 : act.kind.toNat % 8 < 8 := Nat.mod_lt _ (by decide)
  refine RSim.run mixed k_l02_do ?_ (by simp)
  simp only [b_l02_do, go_sem, Nat.reduceEqDiff, Nat.reduceAdd, Nat.reduceMul, Nat.reduceSub, Nat.reduceLeDiff, Int.reduceBEq, Int.reduceBNe, Int.reduceLT, Int.reduceLE, Int.reduceGT, Int.reduceGE, Int.reduceEq, ↓reduceIte, reduceCtorEq, hall]
  rw [hS1]
  simp only [go_sem, Nat.reduceEqDiff, Nat.reduceAdd, Nat.reduceMul, Nat.reduceSub, Nat.reduceLeDiff, Int.reduceBEq, Int.reduceBNe, Int.reduceLT, Int.reduceLE, Int.reduceGT, Int.reduceGE, Int.reduceEq, ↓reduceIte, reduceCtorEq, b1, u8r]
  generalize act.kind.toNat % 8 = r at hr8
  rcases (show r = 0 ∨ r = 1 ∨ r = 2 ∨ r = 3 ∨ r = 4 ∨ r = 5 ∨ r = 6 ∨ r = 7 by omega) with rfl | rfl | rfl | rfl | rfl | rfl | rfl | rfl
  · simp only [go_sem, Nat.reduceEqDiff, Nat.reduceAdd, Nat.reduceMul, Nat.reduceSub, Nat.reduceLeDiff, Int.reduceBEq, Int.reduceBNe, Int.reduceLT, Int.reduceLE, Int.reduceGT, Int.reduceGE, Int.reduceEq, ↓reduceIte, reduceCtorEq, Int.natCast_zero]
    refine wc_ite (b := true) (by simp only [go_sem, Nat.reduceEqDiff, Nat.reduceAdd, Nat.reduceMul, Nat.reduceSub, Nat.reduceLeDiff, Int.reduceBEq, Int.reduceBNe, Int.reduceLT, Int.reduceLE, Int.reduceGT, Int.reduceGE, Int.reduceEq, ↓reduceIte, reduceCtorEq] <;> rfl) (fun _ => ?_) (fun h => by cases h)
    simp only [go_sem, Nat.reduceEqDiff, Nat.reduceAdd, Nat.reduceMul, Nat.reduceSub, Nat.reduceLeDiff, Int.reduceBEq, Int.reduceBNe, Int.reduceLT, Int.reduceLE, Int.reduceGT, Int.reduceGE, Int.reduceEq, ↓reduceIte, reduceCtorEq, b1]
    refine wi_call ?_
    simp only [go_sem, Nat.reduceEqDiff, Nat.reduceAdd, Nat.reduceMul, Nat.reduceSub, Nat.reduceLeDiff, Int.reduceBEq, Int.reduceBNe, Int.reduceLT, Int.reduceLE, Int.reduceGT, Int.reduceGE, Int.reduceEq, ↓reduceIte, reduceCtorEq]
    refine append_runs h1.d hs.name (hd.into _ _) hs.p fun S2 D2 d2 a2 k2 o2 => ?_
    have b2 := k2.cells b1 bl1 hni
    have r2 := h1.refAt (D1 := D2) k2
    simp only [go_sem, Nat.reduceEqDiff, Nat.reduceAdd, Nat.reduceMul, Nat.reduceSub, Nat.reduceLeDiff, Int.reduceBEq, Int.reduceBNe, Int.reduceLT, Int.reduceLE, Int.reduceGT, Int.reduceGE, Int.reduceEq, ↓reduceIte, reduceCtorEq, b2]
    refine wi_call ?_
    simp only [go_sem, Nat.reduceEqDiff, Nat.reduceAdd, Nat.reduceMul, Nat.reduceSub, Nat.reduceLeDiff, Int.reduceBEq, Int.reduceBNe, Int.reduceLT, Int.reduceLE, Int.reduceGT, Int.reduceGE, Int.reduceEq, ↓reduceIte, reduceCtorEq]
    refine refGrow_runs (D := D.abs) (fresh := false) r2 h1.a hn hu hfit hroom (by omega) hs.name hd hs.p fun S3 o3 R3 A3 a3 => ?_
    simp only [go_sem, Nat.reduceEqDiff, Nat.reduceAdd, Nat.reduceMul, Nat.reduceSub, Nat.reduceLeDiff, Int.reduceBEq, Int.reduceBNe, Int.reduceLT, Int.reduceLE, Int.reduceGT, Int.reduceGE, Int.reduceEq, ↓reduceIte, reduceCtorEq, beq_self_int]
    rw [← a2] at a3
    refine fin _ _ _ _ (h1.first d2 k2 o2 A3 a3) ?_ ?_ ?_
    · have := len_grow D.abs act.name act.p false
      rw [← a2, abs_len, abs_len] at this; exact this
    · have := room_grow D.abs act.name act.p false
      rw [← a2] at this; exact this
    · exact fun n h1 h2 h3 => by rw [a2]; exact lacks_grow h1 h2
  · have cN : ((1 : Nat) : Int) = 1 := rfl
    simp only [go_sem, Nat.reduceEqDiff, Nat.reduceAdd, Nat.reduceMul, Nat.reduceSub, Nat.reduceLeDiff, Int.reduceBEq, Int.reduceBNe, Int.reduceLT, Int.reduceLE, Int.reduceGT, Int.reduceGE, Int.reduceEq, ↓reduceIte, reduceCtorEq, cN]
    refine wc_ite (b := false) (by simp only [go_sem, Nat.reduceEqDiff, Nat.reduceAdd, Nat.reduceMul, Nat.reduceSub, Nat.reduceLeDiff, Int.reduceBEq, Int.reduceBNe, Int.reduceLT, Int.reduceLE, Int.reduceGT, Int.reduceGE, Int.reduceEq, ↓reduceIte, reduceCtorEq] <;> rfl) (fun h => by cases h) (fun _ => ?_)
    simp only [i_l02_do_1, go_sem, Nat.reduceEqDiff, Nat.reduceAdd, Nat.reduceMul, Nat.reduceSub, Nat.reduceLeDiff, Int.reduceBEq, Int.reduceBNe, Int.reduceLT, Int.reduceLE, Int.reduceGT, Int.reduceGE, Int.reduceEq, ↓reduceIte, reduceCtorEq]
    refine wc_ite (b := true) (by simp only [go_sem, Nat.reduceEqDiff, Nat.reduceAdd, Nat.reduceMul, Nat.reduceSub, Nat.reduceLeDiff, Int.reduceBEq, Int.reduceBNe, Int.reduceLT, Int.reduceLE, Int.reduceGT, Int.reduceGE, Int.reduceEq, ↓reduceIte, reduceCtorEq] <;> rfl) (fun _ => ?_) (fun h => by cases h)
    simp only [go_sem, Nat.reduceEqDiff, Nat.reduceAdd, Nat.reduceMul, Nat.reduceSub, Nat.reduceLeDiff, Int.reduceBEq, Int.reduceBNe, Int.reduceLT, Int.reduceLE, Int.reduceGT, Int.reduceGE, Int.reduceEq, ↓reduceIte, reduceCtorEq, b1]
    refine wi_call ?_
    simp only [go_sem, Nat.reduceEqDiff, Nat.reduceAdd, Nat.reduceMul, Nat.reduceSub, Nat.reduceLeDiff, Int.reduceBEq, Int.reduceBNe, Int.reduceLT, Int.reduceLE, Int.reduceGT, Int.reduceGE, Int.reduceEq, ↓reduceIte, reduceCtorEq]
    refine put_runs h1.d hs.name (hd.into _ _) hs.p fun S2 D2 d2 a2 k2 o2 => ?_
    have b2 := k2.cells b1 bl1 hni
    have r2 := h1.refAt (D1 := D2) k2
    simp only [go_sem, Nat.reduceEqDiff, Nat.reduceAdd, Nat.reduceMul, Nat.reduceSub, Nat.reduceLeDiff, Int.reduceBEq, Int.reduceBNe, Int.reduceLT, Int.reduceLE, Int.reduceGT, Int.reduceGE, Int.reduceEq, ↓reduceIte, reduceCtorEq, b2]
    refine wi_call ?_
    simp only [go_sem, Nat.reduceEqDiff, Nat.reduceAdd, Nat.reduceMul, Nat.reduceSub, Nat.reduceLeDiff, Int.reduceBEq, Int.reduceBNe, Int.reduceLT, Int.reduceLE, Int.reduceGT, Int.reduceGE, Int.reduceEq, ↓reduceIte, reduceCtorEq]
    refine refGrow_runs (D := D.abs) (fresh := true) r2 h1.a hn hu hfit hroom (by omega) hs.name hd hs.p fun S3 o3 R3 A3 a3 => ?_
    simp only [go_sem, Nat.reduceEqDiff, Nat.reduceAdd, Nat.reduceMul, Nat.reduceSub, Nat.reduceLeDiff, Int.reduceBEq, Int.reduceBNe, Int.reduceLT, Int.reduceLE, Int.reduceGT, Int.reduceGE, Int.reduceEq, ↓reduceIte, reduceCtorEq, beq_self_int]
    rw [← a2] at a3
    refine fin _ _ _ _ (h1.first d2 k2 o2 A3 a3) ?_ ?_ ?_
    · have := len_grow D.abs act.name act.p true
      rw [← a2, abs_len, abs_len] at this; exact this
    · have := room_grow D.abs act.name act.p true
      rw [← a2] at this; exact this
    · exact fun n h1 h2 h3 => by rw [a2]; exact lacks_grow h1 h2
  · have cN : ((2 : Nat) : Int) = 2 := rfl
    simp only [go_sem, Nat.reduceEqDiff, Nat.reduceAdd, Nat.reduceMul, Nat.reduceSub, Nat.reduceLeDiff, Int.reduceBEq, Int.reduceBNe, Int.reduceLT, Int.reduceLE, Int.reduceGT, Int.reduceGE, Int.reduceEq, ↓reduceIte, reduceCtorEq, cN]
    refine wc_ite (b := false) (by simp only [go_sem, Nat.reduceEqDiff, Nat.reduceAdd, Nat.reduceMul, Nat.reduceSub, Nat.reduceLeDiff, Int.reduceBEq, Int.reduceBNe, Int.reduceLT, Int.reduceLE, Int.reduceGT, Int.reduceGE, Int.reduceEq, ↓reduceIte, reduceCtorEq] <;> rfl) (fun h => by cases h) (fun _ => ?_)
    simp only [i_l02_do_1, go_sem, Nat.reduceEqDiff, Nat.reduceAdd, Nat.reduceMul, Nat.reduceSub, Nat.reduceLeDiff, Int.reduceBEq, Int.reduceBNe, Int.reduceLT, Int.reduceLE, Int.reduceGT, Int.reduceGE, Int.reduceEq, ↓reduceIte, reduceCtorEq]
    refine wc_ite (b := false) (by simp only [go_sem, Nat.reduceEqDiff, Nat.reduceAdd, Nat.reduceMul, Nat.reduceSub, Nat.reduceLeDiff, Int.reduceBEq, Int.reduceBNe, Int.reduceLT, Int.reduceLE, Int.reduceGT, Int.reduceGE, Int.reduceEq, ↓reduceIte, reduceCtorEq] <;> rfl) (fun h => by cases h) (fun _ => ?_)
    simp only [go_sem, Nat.reduceEqDiff, Nat.reduceAdd, Nat.reduceMul, Nat.reduceSub, Nat.reduceLeDiff, Int.reduceBEq, Int.reduceBNe, Int.reduceLT, Int.reduceLE, Int.reduceGT, Int.reduceGE, Int.reduceEq, ↓reduceIte, reduceCtorEq]
    refine wc_ite (b := true) (by simp only [go_sem, Nat.reduceEqDiff, Nat.reduceAdd, Nat.reduceMul, Nat.reduceSub, Nat.reduceLeDiff, Int.reduceBEq, Int.reduceBNe, Int.reduceLT, Int.reduceLE, Int.reduceGT, Int.reduceGE, Int.reduceEq, ↓reduceIte, reduceCtorEq] <;> rfl) (fun _ => ?_) (fun h => by cases h)
    simp only [go_sem, Nat.reduceEqDiff, Nat.reduceAdd, Nat.reduceMul, Nat.reduceSub, Nat.reduceLeDiff, Int.reduceBEq, Int.reduceBNe, Int.reduceLT, Int.reduceLE, Int.reduceGT, Int.reduceGE, Int.reduceEq, ↓reduceIte, reduceCtorEq, b1]
    refine wi_call ?_
    simp only [go_sem, Nat.reduceEqDiff, Nat.reduceAdd, Nat.reduceMul, Nat.reduceSub, Nat.reduceLeDiff, Int.reduceBEq, Int.reduceBNe, Int.reduceLT, Int.reduceLE, Int.reduceGT, Int.reduceGE, Int.reduceEq, ↓reduceIte, reduceCtorEq]
    refine sync_runs h1.d hs.name fun S2 D2 d2 a2 k2 o2 => ?_
    have b2 := k2.cells b1 bl1 hni
    have r2 := h1.refAt (D1 := D2) k2
    simp only [go_sem, Nat.reduceEqDiff, Nat.reduceAdd, Nat.reduceMul, Nat.reduceSub, Nat.reduceLeDiff, Int.reduceBEq, Int.reduceBNe, Int.reduceLT, Int.reduceLE, Int.reduceGT, Int.reduceGE, Int.reduceEq, ↓reduceIte, reduceCtorEq, b2]
    refine wi_call ?_
    simp only [go_sem, Nat.reduceEqDiff, Nat.reduceAdd, Nat.reduceMul, Nat.reduceSub, Nat.reduceLeDiff, Int.reduceBEq, Int.reduceBNe, Int.reduceLT, Int.reduceLE, Int.reduceGT, Int.reduceGE, Int.reduceEq, ↓reduceIte, reduceCtorEq]
    refine refSync_runs (D := D.abs) r2 h1.a hn (by omega) hs.name fun S3 o3 R3 A3 a3 => ?_
    simp only [go_sem, Nat.reduceEqDiff, Nat.reduceAdd, Nat.reduceMul, Nat.reduceSub, Nat.reduceLeDiff, Int.reduceBEq, Int.reduceBNe, Int.reduceLT, Int.reduceLE, Int.reduceGT, Int.reduceGE, Int.reduceEq, ↓reduceIte, reduceCtorEq, beq_self_int]
    rw [← a2] at a3
    refine fin _ _ _ _ (h1.first d2 k2 o2 A3 a3) ?_ ?_ ?_
    · have := len_sync D.abs act.name
      rw [← a2, abs_len, abs_len] at this; exact this
    · have := room_sync D.abs act.name
      rw [← a2] at this; exact this
    · exact fun n h1 h2 h3 => by rw [a2]; exact lacks_sync h1
  · have cN : ((3 : Nat) : Int) = 3 := rfl
    simp only [go_sem, Nat.reduceEqDiff, Nat.reduceAdd, Nat.reduceMul, Nat.reduceSub, Nat.reduceLeDiff, Int.reduceBEq, Int.reduceBNe, Int.reduceLT, Int.reduceLE, Int.reduceGT, Int.reduceGE, Int.reduceEq, ↓reduceIte, reduceCtorEq, cN]
    refine wc_ite (b := false) (by simp only [go_sem, Nat.reduceEqDiff, Nat.reduceAdd, Nat.reduceMul, Nat.reduceSub, Nat.reduceLeDiff, Int.reduceBEq, Int.reduceBNe, Int.reduceLT, Int.reduceLE, Int.reduceGT, Int.reduceGE, Int.reduceEq, ↓reduceIte, reduceCtorEq] <;> rfl) (fun h => by cases h) (fun _ => ?_)
    simp only [i_l02_do_1, go_sem, Nat.reduceEqDiff, Nat.reduceAdd, Nat.reduceMul, Nat.reduceSub, Nat.reduceLeDiff, Int.reduceBEq, Int.reduceBNe, Int.reduceLT, Int.reduceLE, Int.reduceGT, Int.reduceGE, Int.reduceEq, ↓reduceIte, reduceCtorEq]
    refine wc_ite (b := false) (by simp only [go_sem, Nat.reduceEqDiff, Nat.reduceAdd, Nat.reduceMul, Nat.reduceSub, Nat.reduceLeDiff, Int.reduceBEq, Int.reduceBNe, Int.reduceLT, Int.reduceLE, Int.reduceGT, Int.reduceGE, Int.reduceEq, ↓reduceIte, reduceCtorEq] <;> rfl) (fun h => by cases h) (fun _ => ?_)
    simp only [go_sem, Nat.reduceEqDiff, Nat.reduceAdd, Nat.reduceMul, Nat.reduceSub, Nat.reduceLeDiff, Int.reduceBEq, Int.reduceBNe, Int.reduceLT, Int.reduceLE, Int.reduceGT, Int.reduceGE, Int.reduceEq, ↓reduceIte, reduceCtorEq]
    refine wc_ite (b := false) (by simp only [go_sem, Nat.reduceEqDiff, Nat.reduceAdd, Nat.reduceMul, Nat.reduceSub, Nat.reduceLeDiff, Int.reduceBEq, Int.reduceBNe, Int.reduceLT, Int.reduceLE, Int.reduceGT, Int.reduceGE, Int.reduceEq, ↓reduceIte, reduceCtorEq] <;> rfl) (fun h => by cases h) (fun _ => ?_)
    simp only [go_sem, Nat.reduceEqDiff, Nat.reduceAdd, Nat.reduceMul, Nat.reduceSub, Nat.reduceLeDiff, Int.reduceBEq, Int.reduceBNe, Int.reduceLT, Int.reduceLE, Int.reduceGT, Int.reduceGE, Int.reduceEq, ↓reduceIte, reduceCtorEq]
    refine wc_ite (b := true) (by simp only [go_sem, Nat.reduceEqDiff, Nat.reduceAdd, Nat.reduceMul, Nat.reduceSub, Nat.reduceLeDiff, Int.reduceBEq, Int.reduceBNe, Int.reduceLT, Int.reduceLE, Int.reduceGT, Int.reduceGE, Int.reduceEq, ↓reduceIte, reduceCtorEq] <;> rfl) (fun _ => ?_) (fun h => by cases h)
    simp only [go_sem, Nat.reduceEqDiff, Nat.reduceAdd, Nat.reduceMul, Nat.reduceSub, Nat.reduceLeDiff, Int.reduceBEq, Int.reduceBNe, Int.reduceLT, Int.reduceLE, Int.reduceGT, Int.reduceGE, Int.reduceEq, ↓reduceIte, reduceCtorEq, b1]
    refine wi_call ?_
    simp only [go_sem, Nat.reduceEqDiff, Nat.reduceAdd, Nat.reduceMul, Nat.reduceSub, Nat.reduceLeDiff, Int.reduceBEq, Int.reduceBNe, Int.reduceLT, Int.reduceLE, Int.reduceGT, Int.reduceGE, Int.reduceEq, ↓reduceIte, reduceCtorEq]
    refine remove_runs h1.d hs.name fun S2 D2 d2 a2 k2 o2 => ?_
    have b2 := k2.cells b1 bl1 hni
    have r2 := h1.refAt (D1 := D2) k2
    simp only [go_sem, Nat.reduceEqDiff, Nat.reduceAdd, Nat.reduceMul, Nat.reduceSub, Nat.reduceLeDiff, Int.reduceBEq, Int.reduceBNe, Int.reduceLT, Int.reduceLE, Int.reduceGT, Int.reduceGE, Int.reduceEq, ↓reduceIte, reduceCtorEq, b2]
    refine wi_call ?_
    simp only [go_sem, Nat.reduceEqDiff, Nat.reduceAdd, Nat.reduceMul, Nat.reduceSub, Nat.reduceLeDiff, Int.reduceBEq, Int.reduceBNe, Int.reduceLT, Int.reduceLE, Int.reduceGT, Int.reduceGE, Int.reduceEq, ↓reduceIte, reduceCtorEq]
    refine refRemove_runs (D := D.abs) r2 h1.a hn (by omega) hs.name fun S3 o3 R3 A3 a3 => ?_
    simp only [go_sem, Nat.reduceEqDiff, Nat.reduceAdd, Nat.reduceMul, Nat.reduceSub, Nat.reduceLeDiff, Int.reduceBEq, Int.reduceBNe, Int.reduceLT, Int.reduceLE, Int.reduceGT, Int.reduceGE, Int.reduceEq, ↓reduceIte, reduceCtorEq, beq_self_int]
    rw [← a2] at a3
    refine fin _ _ _ _ (h1.first d2 k2 (fun j hj => .inl (o2 j hj)) A3 a3) ?_ ?_ ?_
    · have := len_remove D.abs act.name
      rw [← a2, abs_len, abs_len] at this; exact this
    · have := room_remove D.abs act.name
      rw [← a2] at this; exact this
    · exact fun n h1 h2 h3 => by rw [a2]; exact lacks_remove h1
  · have cN : ((4 : Nat) : Int) = 4 := rfl
    simp only [go_sem, Nat.reduceEqDiff, Nat.reduceAdd, Nat.reduceMul, Nat.reduceSub, Nat.reduceLeDiff, Int.reduceBEq, Int.reduceBNe, Int.reduceLT, Int.reduceLE, Int.reduceGT, Int.reduceGE, Int.reduceEq, ↓reduceIte, reduceCtorEq, cN]
    refine wc_ite (b := false) (by simp only [go_sem, Nat.reduceEqDiff, Nat.reduceAdd, Nat.reduceMul, Nat.reduceSub, Nat.reduceLeDiff, Int.reduceBEq, Int.reduceBNe, Int.reduceLT, Int.reduceLE, Int.reduceGT, Int.reduceGE, Int.reduceEq, ↓reduceIte, reduceCtorEq] <;> rfl) (fun h => by cases h) (fun _ => ?_)
    simp only [i_l02_do_1, go_sem, Nat.reduceEqDiff, Nat.reduceAdd, Nat.reduceMul, Nat.reduceSub, Nat.reduceLeDiff, Int.reduceBEq, Int.reduceBNe, Int.reduceLT, Int.reduceLE, Int.reduceGT, Int.reduceGE, Int.reduceEq, ↓reduceIte, reduceCtorEq]
    refine wc_ite (b := false) (by simp only [go_sem, Nat.reduceEqDiff, Nat.reduceAdd, Nat.reduceMul, Nat.reduceSub, Nat.reduceLeDiff, Int.reduceBEq, Int.reduceBNe, Int.reduceLT, Int.reduceLE, Int.reduceGT, Int.reduceGE, Int.reduceEq, ↓reduceIte, reduceCtorEq] <;> rfl) (fun h => by cases h) (fun _ => ?_)
    simp only [go_sem, Nat.reduceEqDiff, Nat.reduceAdd, Nat.reduceMul, Nat.reduceSub, Nat.reduceLeDiff, Int.reduceBEq, Int.reduceBNe, Int.reduceLT, Int.reduceLE, Int.reduceGT, Int.reduceGE, Int.reduceEq, ↓reduceIte, reduceCtorEq]
    refine wc_ite (b := false) (by simp only [go_sem, Nat.reduceEqDiff, Nat.reduceAdd, Nat.reduceMul, Nat.reduceSub, Nat.reduceLeDiff, Int.reduceBEq, Int.reduceBNe, Int.reduceLT, Int.reduceLE, Int.reduceGT, Int.reduceGE, Int.reduceEq, ↓reduceIte, reduceCtorEq] <;> rfl) (fun h => by cases h) (fun _ => ?_)
    simp only [go_sem, Nat.reduceEqDiff, Nat.reduceAdd, Nat.reduceMul, Nat.reduceSub, Nat.reduceLeDiff, Int.reduceBEq, Int.reduceBNe, Int.reduceLT, Int.reduceLE, Int.reduceGT, Int.reduceGE, Int.reduceEq, ↓reduceIte, reduceCtorEq]
    refine wc_ite (b := false) (by simp only [go_sem, Nat.reduceEqDiff, Nat.reduceAdd, Nat.reduceMul, Nat.reduceSub, Nat.reduceLeDiff, Int.reduceBEq, Int.reduceBNe, Int.reduceLT, Int.reduceLE, Int.reduceGT, Int.reduceGE, Int.reduceEq, ↓reduceIte, reduceCtorEq] <;> rfl) (fun h => by cases h) (fun _ => ?_)
    simp only [go_sem, Nat.reduceEqDiff, Nat.reduceAdd, Nat.reduceMul, Nat.reduceSub, Nat.reduceLeDiff, Int.reduceBEq, Int.reduceBNe, Int.reduceLT, Int.reduceLE, Int.reduceGT, Int.reduceGE, Int.reduceEq, ↓reduceIte, reduceCtorEq]
    refine wc_ite (b := true) (by simp only [go_sem, Nat.reduceEqDiff, Nat.reduceAdd, Nat.reduceMul, Nat.reduceSub, Nat.reduceLeDiff, Int.reduceBEq, Int.reduceBNe, Int.reduceLT, Int.reduceLE, Int.reduceGT, Int.reduceGE, Int.reduceEq, ↓reduceIte, reduceCtorEq] <;> rfl) (fun _ => ?_) (fun h => by cases h)
    simp only [go_sem, Nat.reduceEqDiff, Nat.reduceAdd, Nat.reduceMul, Nat.reduceSub, Nat.reduceLeDiff, Int.reduceBEq, Int.reduceBNe, Int.reduceLT, Int.reduceLE, Int.reduceGT, Int.reduceGE, Int.reduceEq, ↓reduceIte, reduceCtorEq, b1]
    refine wi_call ?_
    simp only [go_sem, Nat.reduceEqDiff, Nat.reduceAdd, Nat.reduceMul, Nat.reduceSub, Nat.reduceLeDiff, Int.reduceBEq, Int.reduceBNe, Int.reduceLT, Int.reduceLE, Int.reduceGT, Int.reduceGE, Int.reduceEq, ↓reduceIte, reduceCtorEq]
    refine rename_runs h1.d hs.name hs.to fun S2 D2 d2 a2 k2 o2 => ?_
    have b2 := k2.cells b1 bl1 hni
    have r2 := h1.refAt (D1 := D2) k2
    simp only [go_sem, Nat.reduceEqDiff, Nat.reduceAdd, Nat.reduceMul, Nat.reduceSub, Nat.reduceLeDiff, Int.reduceBEq, Int.reduceBNe, Int.reduceLT, Int.reduceLE, Int.reduceGT, Int.reduceGE, Int.reduceEq, ↓reduceIte, reduceCtorEq, b2]
    refine wi_call ?_
    simp only [go_sem, Nat.reduceEqDiff, Nat.reduceAdd, Nat.reduceMul, Nat.reduceSub, Nat.reduceLeDiff, Int.reduceBEq, Int.reduceBNe, Int.reduceLT, Int.reduceLE, Int.reduceGT, Int.reduceGE, Int.reduceEq, ↓reduceIte, reduceCtorEq]
    refine refRename_runs (D := D.abs) r2 h1.a hn (by omega) hs.name hs.to fun S3 o3 R3 A3 a3 => ?_
    simp only [go_sem, Nat.reduceEqDiff, Nat.reduceAdd, Nat.reduceMul, Nat.reduceSub, Nat.reduceLeDiff, Int.reduceBEq, Int.reduceBNe, Int.reduceLT, Int.reduceLE, Int.reduceGT, Int.reduceGE, Int.reduceEq, ↓reduceIte, reduceCtorEq, beq_self_int]
    rw [← a2] at a3
    refine fin _ _ _ _ (h1.first d2 k2 (fun j hj => .inl (o2 j hj)) A3 a3) ?_ ?_ ?_
    · have := len_rename D.abs act.name act.to
      rw [← a2, abs_len, abs_len] at this; exact this
    · have := room_rename D.abs act.name act.to
      rw [← a2] at this; exact this
    · exact fun n h1 h2 h3 => by rw [a2]; exact lacks_rename h1 h3
  · have cN : ((5 : Nat) : Int) = 5 := rfl
    simp only [go_sem, Nat.reduceEqDiff, Nat.reduceAdd, Nat.reduceMul, Nat.reduceSub, Nat.reduceLeDiff, Int.reduceBEq, Int.reduceBNe, Int.reduceLT, Int.reduceLE, Int.reduceGT, Int.reduceGE, Int.reduceEq, ↓reduceIte, reduceCtorEq, cN]
    refine wc_ite (b := false) (by simp only [go_sem, Nat.reduceEqDiff, Nat.reduceAdd, Nat.reduceMul, Nat.reduceSub, Nat.reduceLeDiff, Int.reduceBEq, Int.reduceBNe, Int.reduceLT, Int.reduceLE, Int.reduceGT, Int.reduceGE, Int.reduceEq, ↓reduceIte, reduceCtorEq] <;> rfl) (fun h => by cases h) (fun _ => ?_)
    simp only [i_l02_do_1, go_sem, Nat.reduceEqDiff, Nat.reduceAdd, Nat.reduceMul, Nat.reduceSub, Nat.reduceLeDiff, Int.reduceBEq, Int.reduceBNe, Int.reduceLT, Int.reduceLE, Int.reduceGT, Int.reduceGE, Int.reduceEq, ↓reduceIte, reduceCtorEq]
    refine wc_ite (b := false) (by simp only [go_sem, Nat.reduceEqDiff, Nat.reduceAdd, Nat.reduceMul, Nat.reduceSub, Nat.reduceLeDiff, Int.reduceBEq, Int.reduceBNe, Int.reduceLT, Int.reduceLE, Int.reduceGT, Int.reduceGE, Int.reduceEq, ↓reduceIte, reduceCtorEq] <;> rfl) (fun h => by cases h) (fun _ => ?_)
    simp only [go_sem, Nat.reduceEqDiff, Nat.reduceAdd, Nat.reduceMul, Nat.reduceSub, Nat.reduceLeDiff, Int.reduceBEq, Int.reduceBNe, Int.reduceLT, Int.reduceLE, Int.reduceGT, Int.reduceGE, Int.reduceEq, ↓reduceIte, reduceCtorEq]
    refine wc_ite (b := false) (by simp only [go_sem, Nat.reduceEqDiff, Nat.reduceAdd, Nat.reduceMul, Nat.reduceSub, Nat.reduceLeDiff, Int.reduceBEq, Int.reduceBNe, Int.reduceLT, Int.reduceLE, Int.reduceGT, Int.reduceGE, Int.reduceEq, ↓reduceIte, reduceCtorEq] <;> rfl) (fun h => by cases h) (fun _ => ?_)
    simp only [go_sem, Nat.reduceEqDiff, Nat.reduceAdd, Nat.reduceMul, Nat.reduceSub, Nat.reduceLeDiff, Int.reduceBEq, Int.reduceBNe, Int.reduceLT, Int.reduceLE, Int.reduceGT, Int.reduceGE, Int.reduceEq, ↓reduceIte, reduceCtorEq]
    refine wc_ite (b := false) (by simp only [go_sem, Nat.reduceEqDiff, Nat.reduceAdd, Nat.reduceMul, Nat.reduceSub, Nat.reduceLeDiff, Int.reduceBEq, Int.reduceBNe, Int.reduceLT, Int.reduceLE, Int.reduceGT, Int.reduceGE, Int.reduceEq, ↓reduceIte, reduceCtorEq] <;> rfl) (fun h => by cases h) (fun _ => ?_)
    simp only [go_sem, Nat.reduceEqDiff, Nat.reduceAdd, Nat.reduceMul, Nat.reduceSub, Nat.reduceLeDiff, Int.reduceBEq, Int.reduceBNe, Int.reduceLT, Int.reduceLE, Int.reduceGT, Int.reduceGE, Int.reduceEq, ↓reduceIte, reduceCtorEq]
    refine wc_ite (b := false) (by simp only [go_sem, Nat.reduceEqDiff, Nat.reduceAdd, Nat.reduceMul, Nat.reduceSub, Nat.reduceLeDiff, Int.reduceBEq, Int.reduceBNe, Int.reduceLT, Int.reduceLE, Int.reduceGT, Int.reduceGE, Int.reduceEq, ↓reduceIte, reduceCtorEq] <;> rfl) (fun h => by cases h) (fun _ => ?_)
    simp only [i_l02_do_0, go_sem, Nat.reduceEqDiff, Nat.reduceAdd, Nat.reduceMul, Nat.reduceSub, Nat.reduceLeDiff, Int.reduceBEq, Int.reduceBNe, Int.reduceLT, Int.reduceLE, Int.reduceGT, Int.reduceGE, Int.reduceEq, ↓reduceIte, reduceCtorEq]
    refine wc_ite (b := true) (by simp only [go_sem, Nat.reduceEqDiff, Nat.reduceAdd, Nat.reduceMul, Nat.reduceSub, Nat.reduceLeDiff, Int.reduceBEq, Int.reduceBNe, Int.reduceLT, Int.reduceLE, Int.reduceGT, Int.reduceGE, Int.reduceEq, ↓reduceIte, reduceCtorEq] <;> rfl) (fun _ => ?_) (fun h => by cases h)
    simp only [go_sem, Nat.reduceEqDiff, Nat.reduceAdd, Nat.reduceMul, Nat.reduceSub, Nat.reduceLeDiff, Int.reduceBEq, Int.reduceBNe, Int.reduceLT, Int.reduceLE, Int.reduceGT, Int.reduceGE, Int.reduceEq, ↓reduceIte, reduceCtorEq, b1]
    refine wi_call ?_
    simp only [go_sem, Nat.reduceEqDiff, Nat.reduceAdd, Nat.reduceMul, Nat.reduceSub, Nat.reduceLeDiff, Int.reduceBEq, Int.reduceBNe, Int.reduceLT, Int.reduceLE, Int.reduceGT, Int.reduceGE, Int.reduceEq, ↓reduceIte, reduceCtorEq]
    refine read_abs h1.d hs.name fun S2 v2 hv2 k2 => ?_
    have b2 := k2.cells b1 bl1 id
    have h2 := h1.stay k2
    simp only [go_sem, Nat.reduceEqDiff, Nat.reduceAdd, Nat.reduceMul, Nat.reduceSub, Nat.reduceLeDiff, Int.reduceBEq, Int.reduceBNe, Int.reduceLT, Int.reduceLE, Int.reduceGT, Int.reduceGE, Int.reduceEq, ↓reduceIte, reduceCtorEq, b2]
    refine wi_call ?_
    simp only [go_sem, Nat.reduceEqDiff, Nat.reduceAdd, Nat.reduceMul, Nat.reduceSub, Nat.reduceLeDiff, Int.reduceBEq, Int.reduceBNe, Int.reduceLT, Int.reduceLE, Int.reduceGT, Int.reduceGE, Int.reduceEq, ↓reduceIte, reduceCtorEq]
    refine refRead_runs (D := D.abs) h2.r h1.a hn (by omega) hs.name fun v3 hv3 => ?_
    have c2 : ∀ S, V.conv S .bytesStr v2 = some (.str (mkS (D.abs.bytes act.name))) := fun S => hv2.convS S
    have c3 : ∀ S, V.conv S .bytesStr v3 = some (.str (mkS (D.abs.bytes act.name))) := fun S => hv3.convS S
    simp only [go_sem, Nat.reduceEqDiff, Nat.reduceAdd, Nat.reduceMul, Nat.reduceSub, Nat.reduceLeDiff, Int.reduceBEq, Int.reduceBNe, Int.reduceLT, Int.reduceLE, Int.reduceGT, Int.reduceGE, Int.reduceEq, ↓reduceIte, reduceCtorEq, c2, c3, decide_true, beq_self_int]
    exact fin _ _ _ _ (BAfter.new h1 k2) (Nat.le_succ _) rfl fun _ h _ _ => h
  · have cN : ((6 : Nat) : Int) = 6 := rfl
    simp only [go_sem, Nat.reduceEqDiff, Nat.reduceAdd, Nat.reduceMul, Nat.reduceSub, Nat.reduceLeDiff, Int.reduceBEq, Int.reduceBNe, Int.reduceLT, Int.reduceLE, Int.reduceGT, Int.reduceGE, Int.reduceEq, ↓reduceIte, reduceCtorEq, cN]
    refine wc_ite (b := false) (by simp only [go_sem, Nat.reduceEqDiff, Nat.reduceAdd, Nat.reduceMul, Nat.reduceSub, Nat.reduceLeDiff, Int.reduceBEq, Int.reduceBNe, Int.reduceLT, Int.reduceLE, Int.reduceGT, Int.reduceGE, Int.reduceEq, ↓reduceIte, reduceCtorEq] <;> rfl) (fun h => by cases h) (fun _ => ?_)
    simp only [i_l02_do_1, go_sem, Nat.reduceEqDiff, Nat.reduceAdd, Nat.reduceMul, Nat.reduceSub, Nat.reduceLeDiff, Int.reduceBEq, Int.reduceBNe, Int.reduceLT, Int.reduceLE, Int.reduceGT, Int.reduceGE, Int.reduceEq, ↓reduceIte, reduceCtorEq]
    refine wc_ite (b := false) (by simp only [go_sem, Nat.reduceEqDiff, Nat.reduceAdd, Nat.reduceMul, Nat.reduceSub, Nat.reduceLeDiff, Int.reduceBEq, Int.reduceBNe, Int.reduceLT, Int.reduceLE, Int.reduceGT, Int.reduceGE, Int.reduceEq, ↓reduceIte, reduceCtorEq] <;> rfl) (fun h => by cases h) (fun _ => ?_)
    simp only [go_sem, Nat.reduceEqDiff, Nat.reduceAdd, Nat.reduceMul, Nat.reduceSub, Nat.reduceLeDiff, Int.reduceBEq, Int.reduceBNe, Int.reduceLT, Int.reduceLE, Int.reduceGT, Int.reduceGE, Int.reduceEq, ↓reduceIte, reduceCtorEq]
    refine wc_ite (b := false) (by simp only [go_sem, Nat.reduceEqDiff, Nat.reduceAdd, Nat.reduceMul, Nat.reduceSub, Nat.reduceLeDiff, Int.reduceBEq, Int.reduceBNe, Int.reduceLT, Int.reduceLE, Int.reduceGT, Int.reduceGE, Int.reduceEq, ↓reduceIte, reduceCtorEq] <;> rfl) (fun h => by cases h) (fun _ => ?_)
    simp only [go_sem, Nat.reduceEqDiff, Nat.reduceAdd, Nat.reduceMul, Nat.reduceSub, Nat.reduceLeDiff, Int.reduceBEq, Int.reduceBNe, Int.reduceLT, Int.reduceLE, Int.reduceGT, Int.reduceGE, Int.reduceEq, ↓reduceIte, reduceCtorEq]
    refine wc_ite (b := false) (by simp only [go_sem, Nat.reduceEqDiff, Nat.reduceAdd, Nat.reduceMul, Nat.reduceSub, Nat.reduceLeDiff, Int.reduceBEq, Int.reduceBNe, Int.reduceLT, Int.reduceLE, Int.reduceGT, Int.reduceGE, Int.reduceEq, ↓reduceIte, reduceCtorEq] <;> rfl) (fun h => by cases h) (fun _ => ?_)
    simp only [go_sem, Nat.reduceEqDiff, Nat.reduceAdd, Nat.reduceMul, Nat.reduceSub, Nat.reduceLeDiff, Int.reduceBEq, Int.reduceBNe, Int.reduceLT, Int.reduceLE, Int.reduceGT, Int.reduceGE, Int.reduceEq, ↓reduceIte, reduceCtorEq]
    refine wc_ite (b := false) (by simp only [go_sem, Nat.reduceEqDiff, Nat.reduceAdd, Nat.reduceMul, Nat.reduceSub, Nat.reduceLeDiff, Int.reduceBEq, Int.reduceBNe, Int.reduceLT, Int.reduceLE, Int.reduceGT, Int.reduceGE, Int.reduceEq, ↓reduceIte, reduceCtorEq] <;> rfl) (fun h => by cases h) (fun _ => ?_)
    simp only [i_l02_do_0, go_sem, Nat.reduceEqDiff, Nat.reduceAdd, Nat.reduceMul, Nat.reduceSub, Nat.reduceLeDiff, Int.reduceBEq, Int.reduceBNe, Int.reduceLT, Int.reduceLE, Int.reduceGT, Int.reduceGE, Int.reduceEq, ↓reduceIte, reduceCtorEq]
    refine wc_ite (b := false) (by simp only [go_sem, Nat.reduceEqDiff, Nat.reduceAdd, Nat.reduceMul, Nat.reduceSub, Nat.reduceLeDiff, Int.reduceBEq, Int.reduceBNe, Int.reduceLT, Int.reduceLE, Int.reduceGT, Int.reduceGE, Int.reduceEq, ↓reduceIte, reduceCtorEq] <;> rfl) (fun h => by cases h) (fun _ => ?_)
    simp only [go_sem, Nat.reduceEqDiff, Nat.reduceAdd, Nat.reduceMul, Nat.reduceSub, Nat.reduceLeDiff, Int.reduceBEq, Int.reduceBNe, Int.reduceLT, Int.reduceLE, Int.reduceGT, Int.reduceGE, Int.reduceEq, ↓reduceIte, reduceCtorEq]
    refine wc_ite (b := true) (by simp only [go_sem, Nat.reduceEqDiff, Nat.reduceAdd, Nat.reduceMul, Nat.reduceSub, Nat.reduceLeDiff, Int.reduceBEq, Int.reduceBNe, Int.reduceLT, Int.reduceLE, Int.reduceGT, Int.reduceGE, Int.reduceEq, ↓reduceIte, reduceCtorEq] <;> rfl) (fun _ => ?_) (fun h => by cases h)
    simp only [go_sem, Nat.reduceEqDiff, Nat.reduceAdd, Nat.reduceMul, Nat.reduceSub, Nat.reduceLeDiff, Int.reduceBEq, Int.reduceBNe, Int.reduceLT, Int.reduceLE, Int.reduceGT, Int.reduceGE, Int.reduceEq, ↓reduceIte, reduceCtorEq, b1]
    refine wi_call ?_
    simp only [go_sem, Nat.reduceEqDiff, Nat.reduceAdd, Nat.reduceMul, Nat.reduceSub, Nat.reduceLeDiff, Int.reduceBEq, Int.reduceBNe, Int.reduceLT, Int.reduceLE, Int.reduceGT, Int.reduceGE, Int.reduceEq, ↓reduceIte, reduceCtorEq]
    refine arm_runs h1.d (fun S2 hn0 d2 k2 => ?_) (fun hneg => ?_)
    · have hne : ¬ S.n = i := fun e => hni (.inl e)
      have b2 := k2.cells b1 bl1 hne
      have k2' : Keeps (ownD i D) S1 S2 := k2.mono fun j _ e => .inl e
      have r2 := h1.refAt (D1 := D) k2'
      have hh2 := r2.head
      simp only [RS.cells] at hh2
      have hge : decide (act.n < 0) = false := decide_eq_false (by omega)
      have hne2 : ¬ S.n = x := fun e => by have := h.r.lt; omega
      simp only [go_sem, Nat.reduceEqDiff, Nat.reduceAdd, Nat.reduceMul, Nat.reduceSub, Nat.reduceLeDiff, Int.reduceBEq, Int.reduceBNe, Int.reduceLT, Int.reduceLE, Int.reduceGT, Int.reduceGE, Int.reduceEq, ↓reduceIte, reduceCtorEq, b2, hge]
      refine wc_ite (b := false) (by simp only [go_sem, Nat.reduceEqDiff, Nat.reduceAdd, Nat.reduceMul, Nat.reduceSub, Nat.reduceLeDiff, Int.reduceBEq, Int.reduceBNe, Int.reduceLT, Int.reduceLE, Int.reduceGT, Int.reduceGE, Int.reduceEq, ↓reduceIte, reduceCtorEq] <;> rfl) (fun h => by cases h) (fun _ => ?_)
      simp only [go_sem, Nat.reduceEqDiff, Nat.reduceAdd, Nat.reduceMul, Nat.reduceSub, Nat.reduceLeDiff, Int.reduceBEq, Int.reduceBNe, Int.reduceLT, Int.reduceLE, Int.reduceGT, Int.reduceGE, Int.reduceEq, ↓reduceIte, reduceCtorEq, b2, hh2]
      have r3 := r2.head' (R' := { R with arm := act.n }) rfl
      have A3 : RAfter S2 x o R _ o { R with arm := act.n } := RAfter.head r3 (Keeps.set1 S2 x _) rfl
      have a3 : Alike ({ D with arm := act.n } : Dk).abs { R with arm := act.n } := ⟨h1.a.mem, h1.a.sorted, h1.a.room, rfl, h1.a.off, h1.a.ops⟩
      exact fin _ _ _ _ (h1.first d2 k2' (fun j hj => .inl hj) A3 a3) (Nat.le_succ _) rfl fun _ h _ _ => h
    · have hlt : decide (act.n < 0) = true := decide_eq_true hneg
      simp only [go_sem, Nat.reduceEqDiff, Nat.reduceAdd, Nat.reduceMul, Nat.reduceSub, Nat.reduceLeDiff, Int.reduceBEq, Int.reduceBNe, Int.reduceLT, Int.reduceLE, Int.reduceGT, Int.reduceGE, Int.reduceEq, ↓reduceIte, reduceCtorEq, b1, hlt]
      refine wc_ite (b := true) (by simp only [go_sem, Nat.reduceEqDiff, Nat.reduceAdd, Nat.reduceMul, Nat.reduceSub, Nat.reduceLeDiff, Int.reduceBEq, Int.reduceBNe, Int.reduceLT, Int.reduceLE, Int.reduceGT, Int.reduceGE, Int.reduceEq, ↓reduceIte, reduceCtorEq] <;> rfl) (fun _ => ?_) (fun h => by cases h)
      simp only [go_sem, Nat.reduceEqDiff, Nat.reduceAdd, Nat.reduceMul, Nat.reduceSub, Nat.reduceLeDiff, Int.reduceBEq, Int.reduceBNe, Int.reduceLT, Int.reduceLE, Int.reduceGT, Int.reduceGE, Int.reduceEq, ↓reduceIte, reduceCtorEq]
      exact fin _ _ _ _ (BAfter.refl h1) (Nat.le_succ _) rfl fun _ h _ _ => h
  · have cN : ((7 : Nat) : Int) = 7 := rfl
    simp only [go_sem, Nat.reduceEqDiff, Nat.reduceAdd, Nat.reduceMul, Nat.reduceSub, Nat.reduceLeDiff, Int.reduceBEq, Int.reduceBNe, Int.reduceLT, Int.reduceLE, Int.reduceGT, Int.reduceGE, Int.reduceEq, ↓reduceIte, reduceCtorEq, cN]
    refine wc_ite (b := false) (by simp only [go_sem, Nat.reduceEqDiff, Nat.reduceAdd, Nat.reduceMul, Nat.reduceSub, Nat.reduceLeDiff, Int.reduceBEq, Int.reduceBNe, Int.reduceLT, Int.reduceLE, Int.reduceGT, Int.reduceGE, Int.reduceEq, ↓reduceIte, reduceCtorEq] <;> rfl) (fun h => by cases h) (fun _ => ?_)
    simp only [i_l02_do_1, go_sem, Nat.reduceEqDiff, Nat.reduceAdd, Nat.reduceMul, Nat.reduceSub, Nat.reduceLeDiff, Int.reduceBEq, Int.reduceBNe, Int.reduceLT, Int.reduceLE, Int.reduceGT, Int.reduceGE, Int.reduceEq, ↓reduceIte, reduceCtorEq]
    refine wc_ite (b := false) (by simp only [go_sem, Nat.reduceEqDiff, Nat.reduceAdd, Nat.reduceMul, Nat.reduceSub, Nat.reduceLeDiff, Int.reduceBEq, Int.reduceBNe, Int.reduceLT, Int.reduceLE, Int.reduceGT, Int.reduceGE, Int.reduceEq, ↓reduceIte, reduceCtorEq] <;> rfl) (fun h => by cases h) (fun _ => ?_)
    simp only [go_sem, Nat.reduceEqDiff, Nat.reduceAdd, Nat.reduceMul, Nat.reduceSub, Nat.reduceLeDiff, Int.reduceBEq, Int.reduceBNe, Int.reduceLT, Int.reduceLE, Int.reduceGT, Int.reduceGE, Int.reduceEq, ↓reduceIte, reduceCtorEq]
    refine wc_ite (b := false) (by simp only [go_sem, Nat.reduceEqDiff, Nat.reduceAdd, Nat.reduceMul, Nat.reduceSub, Nat.reduceLeDiff, Int.reduceBEq, Int.reduceBNe, Int.reduceLT, Int.reduceLE, Int.reduceGT, Int.reduceGE, Int.reduceEq, ↓reduceIte, reduceCtorEq] <;> rfl) (fun h => by cases h) (fun _ => ?_)
    simp only [go_sem, Nat.reduceEqDiff, Nat.reduceAdd, Nat.reduceMul, Nat.reduceSub, Nat.reduceLeDiff, Int.reduceBEq, Int.reduceBNe, Int.reduceLT, Int.reduceLE, Int.reduceGT, Int.reduceGE, Int.reduceEq, ↓reduceIte, reduceCtorEq]
    refine wc_ite (b := false) (by simp only [go_sem, Nat.reduceEqDiff, Nat.reduceAdd, Nat.reduceMul, Nat.reduceSub, Nat.reduceLeDiff, Int.reduceBEq, Int.reduceBNe, Int.reduceLT, Int.reduceLE, Int.reduceGT, Int.reduceGE, Int.reduceEq, ↓reduceIte, reduceCtorEq] <;> rfl) (fun h => by cases h) (fun _ => ?_)
    simp only [go_sem, Nat.reduceEqDiff, Nat.reduceAdd, Nat.reduceMul, Nat.reduceSub, Nat.reduceLeDiff, Int.reduceBEq, Int.reduceBNe, Int.reduceLT, Int.reduceLE, Int.reduceGT, Int.reduceGE, Int.reduceEq, ↓reduceIte, reduceCtorEq]
    refine wc_ite (b := false) (by simp only [go_sem, Nat.reduceEqDiff, Nat.reduceAdd, Nat.reduceMul, Nat.reduceSub, Nat.reduceLeDiff, Int.reduceBEq, Int.reduceBNe, Int.reduceLT, Int.reduceLE, Int.reduceGT, Int.reduceGE, Int.reduceEq, ↓reduceIte, reduceCtorEq] <;> rfl) (fun h => by cases h) (fun _ => ?_)
    simp only [i_l02_do_0, go_sem, Nat.reduceEqDiff, Nat.reduceAdd, Nat.reduceMul, Nat.reduceSub, Nat.reduceLeDiff, Int.reduceBEq, Int.reduceBNe, Int.reduceLT, Int.reduceLE, Int.reduceGT, Int.reduceGE, Int.reduceEq, ↓reduceIte, reduceCtorEq]
    refine wc_ite (b := false) (by simp only [go_sem, Nat.reduceEqDiff, Nat.reduceAdd, Nat.reduceMul, Nat.reduceSub, Nat.reduceLeDiff, Int.reduceBEq, Int.reduceBNe, Int.reduceLT, Int.reduceLE, Int.reduceGT, Int.reduceGE, Int.reduceEq, ↓reduceIte, reduceCtorEq] <;> rfl) (fun h => by cases h) (fun _ => ?_)
    simp only [go_sem, Nat.reduceEqDiff, Nat.reduceAdd, Nat.reduceMul, Nat.reduceSub, Nat.reduceLeDiff, Int.reduceBEq, Int.reduceBNe, Int.reduceLT, Int.reduceLE, Int.reduceGT, Int.reduceGE, Int.reduceEq, ↓reduceIte, reduceCtorEq]
    refine wc_ite (b := false) (by simp only [go_sem, Nat.reduceEqDiff, Nat.reduceAdd, Nat.reduceMul, Nat.reduceSub, Nat.reduceLeDiff, Int.reduceBEq, Int.reduceBNe, Int.reduceLT, Int.reduceLE, Int.reduceGT, Int.reduceGE, Int.reduceEq, ↓reduceIte, reduceCtorEq] <;> rfl) (fun h => by cases h) (fun _ => ?_)
    simp only [go_sem, Nat.reduceEqDiff, Nat.reduceAdd, Nat.reduceMul, Nat.reduceSub, Nat.reduceLeDiff, Int.reduceBEq, Int.reduceBNe, Int.reduceLT, Int.reduceLE, Int.reduceGT, Int.reduceGE, Int.reduceEq, ↓reduceIte, reduceCtorEq]
    simp only [s_l02_do_0, go_sem, Nat.reduceEqDiff, Nat.reduceAdd, Nat.reduceMul, Nat.reduceSub, Nat.reduceLeDiff, Int.reduceBEq, Int.reduceBNe, Int.reduceLT, Int.reduceLE, Int.reduceGT, Int.reduceGE, Int.reduceEq, ↓reduceIte, reduceCtorEq, b1]
    refine wi_call ?_
    simp only [go_sem, Nat.reduceEqDiff, Nat.reduceAdd, Nat.reduceMul, Nat.reduceSub, Nat.reduceLeDiff, Int.reduceBEq, Int.reduceBNe, Int.reduceLT, Int.reduceLE, Int.reduceGT, Int.reduceGE, Int.reduceEq, ↓reduceIte, reduceCtorEq]
    refine refRestart_runs h1.r (by omega) hsz hkt fun S2 R2 A2 a2 => ?_
    have hnr : ¬ ownR x o R S.n := fun e => by have := h.r.own_lt e; omega
    have b2 := A2.k.cells b1 bl1 hnr
    have d2 := h1.d.keep A2.k h1.sep
    simp only [go_sem, Nat.reduceEqDiff, Nat.reduceAdd, Nat.reduceMul, Nat.reduceSub, Nat.reduceLeDiff, Int.reduceBEq, Int.reduceBNe, Int.reduceLT, Int.reduceLE, Int.reduceGT, Int.reduceGE, Int.reduceEq, ↓reduceIte, reduceCtorEq, b2]
    refine wi_call ?_
    simp only [go_sem, Nat.reduceEqDiff, Nat.reduceAdd, Nat.reduceMul, Nat.reduceSub, Nat.reduceLeDiff, Int.reduceBEq, Int.reduceBNe, Int.reduceLT, Int.reduceLE, Int.reduceGT, Int.reduceGE, Int.reduceEq, ↓reduceIte, reduceCtorEq]
    refine restart_runs d2 (by omega) hkt fun S3 D3 d3 a3 k3 o3 => ?_
    simp only [go_sem, Nat.reduceEqDiff, Nat.reduceAdd, Nat.reduceMul, Nat.reduceSub, Nat.reduceLeDiff, Int.reduceBEq, Int.reduceBNe, Int.reduceLT, Int.reduceLE, Int.reduceGT, Int.reduceGE, Int.reduceEq, ↓reduceIte, reduceCtorEq]
    refine fin _ _ _ _ (h1.last A2 d3 k3 o3 (by rw [a3]; exact a2 D.abs h1.a hn)) ?_ ?_ ?_
    · have := len_restart D.abs act.keep
      rw [← a3, abs_len, abs_len] at this; omega
    · have := room_restart D.abs act.keep
      rw [← a3] at this; exact this
    · exact fun n h1 h2 h3 => by rw [a3]; exact lacks_restart h1
end Go.VM
