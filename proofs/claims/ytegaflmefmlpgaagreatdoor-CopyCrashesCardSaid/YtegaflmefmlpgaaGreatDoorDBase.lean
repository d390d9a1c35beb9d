/-
  A disk in the store; New, begin, look. NEWPP
-/
import Derived.Test.YtegaflmefmlpgaaGreatDoorDName
set_option linter.unusedVariables false
set_option linter.unusedSimpArgs false
namespace Go.VM
open Go Go.RowKit Go.Proofs

/-- A file as the disk holds it: its name, its bytes, how many are durable; its object, when it was laid in, its bytes' token. -/
structure Ent where
  name : List UInt8
  p : List UInt8
  sure : Nat
  f : Nat
  born : Nat
  t : Tok
def Ent.cell (e : Ent) : V × V × Nat := (.str (mkS e.name), .ptr (some (e.f, 0)), e.born)
structure Dk where
  m : Nat
  c : Nat
  ents : List Ent
  room : Int
  used : Int
  ops : Int
  arm : Int
  off : Bool
def Dk.cells (D : Dk) : List V := [.map (some D.m), .int .i64 D.room, .int .i64 D.used, .int .i64 D.ops, .int .i64 D.arm, .bool D.off]
def sumLen (l : List Ent) : Nat := (l.map fun e => e.p.length).sum
/-- What a disk's things have to be. -/
structure Dk.Wf (D : Dk) : Prop where
  used : D.used = sumLen D.ents
  fits : D.used ≤ D.room
  room : D.room ≤ 67108864
  sure : ∀ e ∈ D.ents, e.sure ≤ e.p.length
  names : ∀ e ∈ D.ents, nameOk e.name = true
def ownD (i : Nat) (D : Dk) : Nat → Prop := fun j => j = i ∨ j = D.m ∨ ∃ e ∈ D.ents, j = e.f ∨ e.t = .at j
structure EntAt (S : St) (e : Ent) : Prop where
  cells : S.cells e.f = some [.sl (e.p.map u8V) e.p.length 1 e.t, .int .i64 e.sure]
  lt : e.f < S.n
  tok : TokOk S e.t
  nil : e.t = .nil → e.p = []
structure DiskAt (S : St) (i : Nat) (D : Dk) : Prop where
  head : S.cells i = some D.cells
  lt : i < S.n
  map : S.hp D.m = some (.map (D.ents.map Ent.cell) D.c)
  mlt : D.m < S.n
  ents : ∀ e ∈ D.ents, EntAt S e
  names : (D.ents.map (·.name)).Nodup
  objs : (D.ents.map (·.f)).Nodup
  born : (D.ents.map (·.born)).Nodup
  clock : ∀ e ∈ D.ents, e.born < D.c
  toks : D.ents.Pairwise fun a b => ∀ k, a.t = .at k → b.t ≠ .at k
  wf : D.Wf

theorem EntAt.keep {S S' : St} {e : Ent} {o : Nat → Prop} (h : EntAt S e) (k : Keeps o S S') (h1 : ¬ o e.f) (h2 : ∀ j, e.t = .at j → ¬ o j) : EntAt S' e :=
  ⟨k.cells h.cells h.lt h1, k.lt h.lt, h.tok.keep k h2, h.nil⟩
theorem hp_keep {S S' : St} {o : Nat → Prop} {i : Nat} {x : AObj} (h : S.hp i = some x) (k : Keeps o S S') (hi : i < S.n) (hn : ¬ o i) : S'.hp i = some x := (k.hp i hi hn).trans h
theorem DiskAt.keep {S S' : St} {i : Nat} {D : Dk} {o : Nat → Prop} (h : DiskAt S i D) (k : Keeps o S S') (ho : ∀ j, ownD i D j → ¬ o j) : DiskAt S' i D :=
  ⟨k.cells h.head h.lt (ho _ (.inl rfl)), k.lt h.lt, hp_keep h.map k h.mlt (ho _ (.inr (.inl rfl))), k.lt h.mlt,
   fun e he => (h.ents e he).keep k (ho _ (.inr (.inr ⟨e, he, .inl rfl⟩))) fun j hj => ho _ (.inr (.inr ⟨e, he, .inr hj⟩)), h.names, h.objs, h.born, h.clock, h.toks, h.wf⟩
theorem DiskAt.own_lt {S : St} {i : Nat} {D : Dk} (h : DiskAt S i D) {j : Nat} (hj : ownD i D j) : j < S.n := by
  rcases hj with rfl | rfl | ⟨e, he, rfl | ht⟩
  · exact h.lt
  · exact h.mlt
  · exact (h.ents e he).lt
  · have := (h.ents e he).tok
    rw [ht] at this; exact this.1
/-- Nothing that the disk owns has turned. -/
theorem DiskAt.stay {S S' : St} {i : Nat} {D : Dk} (h : DiskAt S i D) (k : Keeps (fun _ => False) S S') : DiskAt S' i D := h.keep k fun _ _ => id
theorem DiskAt.strMap {S : St} {i : Nat} {D : Dk} (h : DiskAt S i D) : StrMap (D.ents.map Ent.cell) D.c (D.ents.map (·.name)) := by
  refine ⟨by simp [Ent.cell, List.map_map, Function.comp_def], h.names, fun k hk => ?_, by simpa [Ent.cell, List.map_map, Function.comp_def] using h.born, fun e he => ?_⟩
  · obtain ⟨e, he, rfl⟩ := List.mem_map.1 hk
    have := h.wf.names e he
    simp [nameOk] at this
    unfold Go.maxLen; omega
  · obtain ⟨e', he', rfl⟩ := List.mem_map.1 he
    exact h.clock e' he'

/-! ### Looking for a name -/
theorem find_cases (s : List UInt8) : ∀ l : List Ent, (∃ a e b, l = a ++ e :: b ∧ e.name = s ∧ ∀ x ∈ a, x.name ≠ s) ∨ ∀ x ∈ l, x.name ≠ s
  | [] => .inr fun _ h => by cases h
  | e :: l => by
    by_cases h : e.name = s
    · exact .inl ⟨[], e, l, rfl, h, fun _ h => by cases h⟩
    · rcases find_cases s l with ⟨a, e', b, rfl, h1, h2⟩ | h1
      · exact .inl ⟨e :: a, e', b, rfl, h1, fun x hx => by
          rcases List.mem_cons.1 hx with rfl | hx
          · exact h
          · exact h2 x hx⟩
      · exact .inr fun x hx => by
          rcases List.mem_cons.1 hx with rfl | hx
          · exact h
          · exact h1 x hx
theorem findE_some {s : List UInt8} {e : Ent} {b : List Ent} (he : e.name = s) : ∀ (a : List Ent) (k : Nat), (∀ x ∈ a, x.name ≠ s) → findE .str (.str (mkS s)) ((a ++ e :: b).map Ent.cell) k = some (some (k + a.length, .ptr (some (e.f, 0))))
  | [], k, _ => by
    simp only [List.nil_append, List.map_cons, Ent.cell, findE, keyEq_str, he, decide_true, List.length_nil, Nat.add_zero]
  | x :: a, k, h => by
    have hx : ¬ s = x.name := fun e => h x (by simp) e.symm
    have := findE_some (b := b) he a (k + 1) fun y hy => h y (by simp [hy])
    simp only [List.cons_append, List.map_cons, Ent.cell, findE, keyEq_str, hx, decide_false, List.length_cons] at this ⊢
    rw [this, Nat.add_assoc, Nat.add_comm 1]
theorem findE_none {s : List UInt8} : ∀ (l : List Ent) (k : Nat), (∀ x ∈ l, x.name ≠ s) → findE .str (.str (mkS s)) (l.map Ent.cell) k = some none
  | [], k, _ => rfl
  | x :: l, k, h => by
    have hx : ¬ s = x.name := fun e => h x (by simp) e.symm
    have := findE_none l (k + 1) fun y hy => h y (by simp [hy])
    simp only [List.map_cons, Ent.cell, findE, keyEq_str, hx, decide_false] at this ⊢
    exact this

/-! ### What lies where -/
theorem hp_cells {S : St} {i : Nat} {cs : List V} (h : S.cells i = some cs) : S.hp i = some (.cells cs) := by
  unfold St.cells at h
  split at h
  · rename_i x hx; injection h with h; rw [hx, h]
  · cases h
theorem DiskAt.ne_m {S : St} {i : Nat} {D : Dk} (h : DiskAt S i D) : i ≠ D.m := fun e => by
  have h1 := hp_cells h.head
  have h2 := h.map
  rw [← e, h1] at h2
  cases h2
theorem DiskAt.ne_f {S : St} {i : Nat} {D : Dk} (h : DiskAt S i D) {e : Ent} (he : e ∈ D.ents) : i ≠ e.f := fun e' => by
  have h1 := h.head
  have h2 := (h.ents e he).cells
  rw [← e', h1] at h2
  simp [Dk.cells] at h2
theorem DiskAt.ne_mf {S : St} {i : Nat} {D : Dk} (h : DiskAt S i D) {e : Ent} (he : e ∈ D.ents) : D.m ≠ e.f := fun e' => by
  have h1 := hp_cells (h.ents e he).cells
  have h2 := h.map
  rw [e', h1] at h2
  cases h2
theorem tok_cells {S : St} {t : Tok} (h : TokOk S t) {i : Nat} {x : AObj} (hx : S.hp i = some x) (hn : x ≠ .tok) : t ≠ .at i := fun e => by
  subst e
  rw [h.2] at hx
  injection hx with hx
  exact hn hx.symm

/-- Only the head turns. -/
theorem DiskAt.head' {S : St} {i : Nat} {D D' : Dk} (h : DiskAt S i D) (hm : D'.m = D.m) (hc : D'.c = D.c) (he : D'.ents = D.ents) (hw : D'.Wf) : DiskAt (S.set i (.cells D'.cells)) i D' ∧ Keeps (fun j => j = i) S (S.set i (.cells D'.cells)) := by
  have k := Keeps.set1 S i (.cells D'.cells)
  refine ⟨⟨by rw [cells_setc, if_pos rfl], h.lt, by rw [hm, hc, he]; exact hp_keep h.map k h.mlt (Ne.symm h.ne_m), by rw [hm]; exact h.mlt, fun e h' => ?_, by rw [he]; exact h.names, by rw [he]; exact h.objs, by rw [he]; exact h.born, by rw [he, hc]; exact h.clock, by rw [he]; exact h.toks, hw⟩, k⟩
  rw [he] at h'
  exact (h.ents e h').keep k (Ne.symm (h.ne_f h')) fun j hj e' => tok_cells (h.ents e h').tok (hp_cells h.head) (by intro x; cases x) (by rw [hj, e'])

/-! ### New, begin -/
theorem new_runs {w0 : World} {S : St} {Q : AEnd → St → Prop} {n : Int} (hQ : ∀ S' i, 0 ≤ n → n ≤ 67108864 → S.n ≤ i → DiskAt S' i ⟨S.n, 0, [], n, 0, 0, 0, false⟩ → Keeps (fun _ => False) S S' → Q (.ret (.tup [.ptr (some (i, 0)), .int .i64 0])) S')
    (hQ' : (n < 0 ∨ 67108864 < n) → Q (.ret (.tup [.ptr none, .int .i64 1])) S) : RSim Tryz.prog w0 n_disk_New [.int .i64 n] S Q := by
  refine RSim.run mixed k_disk_New ?_ (by simp)
  simp only [b_disk_New, go_sem]
  by_cases h1 : n < 0
  · simp only [h1, go_sem]
    refine wc_ite (b := true) (by simp only [go_sem] <;> rfl) (fun _ => ?_) (fun h => by cases h)
    simp only [go_sem]
    exact hQ' (.inl h1)
  · by_cases h2 : n > 67108864
    · simp only [h1, h2, go_sem]
      refine wc_ite (b := true) (by simp only [go_sem] <;> rfl) (fun _ => ?_) (fun h => by cases h)
      simp only [go_sem]
      exact hQ' (.inr h2)
    · simp only [h1, h2, go_sem]
      refine wc_ite (b := false) (by simp only [go_sem] <;> rfl) (fun h => by cases h) (fun _ => ?_)
      simp only [go_sem]
      refine wi_e ?_
      simp only [wE]
      simp only [go_sem]
      have k : Keeps (fun _ => False) S ((S.add (.map [] 0)).add (.cells [.map (some S.n), .int .i64 n, .int .i64 0, .int .i64 0, .int .i64 0, .bool false])) := ((Keeps.refl _ S).add _).add _
      refine hQ _ (S.n + 1) (by omega) (by omega) (by omega) ⟨?_, ?_, ?_, ?_, fun e h => (by cases h), List.nodup_nil, List.nodup_nil, List.nodup_nil, fun e h => (by cases h), List.Pairwise.nil, ⟨rfl, show (0 : Int) ≤ n by omega, show n ≤ 67108864 by omega, fun e h => (by cases h), fun e h => by cases h⟩⟩ k
      · simp only [Dk.cells]; simp only [go_sem]
      · simp only [go_sem]; omega
      · simp only [go_sem]
      · simp only [go_sem]; omega

def Dk.begun (D : Dk) : Dk := { D with ops := IntKind.i64.wrap (D.ops + 1), arm := if D.arm > 0 then IntKind.i64.wrap (D.arm - 1) else D.arm, off := decide (D.arm > 0) && IntKind.i64.wrap (D.arm - 1) == 0 }
theorem Dk.Wf.begun {D : Dk} (h : D.Wf) : D.begun.Wf := ⟨h.used, h.fits, h.room, h.sure, h.names⟩

theorem begin_runs {w0 : World} {S : St} {Q : AEnd → St → Prop} {i : Nat} {D : Dk} (h : DiskAt S i D) (hoff : D.off = false)
    (hQ : ∀ S', DiskAt S' i D.begun → Keeps (fun j => j = i) S S' → Q (.ret (.tup [.bool D.begun.off, .int .i64 0])) S') : RSim Tryz.prog w0 n_disk_Disk_begin [.ptr (some (i, 0))] S Q := by
  have h1 := h.head
  refine RSim.run mixed k_disk_Disk_begin ?_ (by simp)
  simp only [b_disk_Disk_begin, go_sem, h1, Dk.cells, hoff]
  refine wc_ite (b := false) (by simp only [go_sem] <;> rfl) (fun h => by cases h) (fun _ => ?_)
  simp only [go_sem, h1, Dk.cells]
  by_cases ha : D.arm > 0
  · simp only [ha, go_sem]
    refine wc_ite (b := true) (by simp only [go_sem] <;> rfl) (fun _ => ?_) (fun h => by cases h)
    simp only [go_sem]
    obtain ⟨h2, k2⟩ := h.head' (D' := D.begun) rfl rfl rfl h.wf.begun
    have hq := hQ _ h2 k2
    simp only [Dk.cells, Dk.begun, ha, decide_true, Bool.true_and, if_true] at hq
    exact hq
  · simp only [ha, go_sem]
    refine wc_ite (b := false) (by simp only [go_sem] <;> rfl) (fun h => by cases h) (fun _ => ?_)
    simp only [go_sem]
    obtain ⟨h2, k2⟩ := h.head' (D' := D.begun) rfl rfl rfl h.wf.begun
    have hq := hQ _ h2 k2
    simp only [Dk.cells, Dk.begun, ha, hoff, decide_false, Bool.false_and, if_false] at hq
    simp only [hoff]
    exact hq
theorem begin_off {w0 : World} {S : St} {Q : AEnd → St → Prop} {i : Nat} {D : Dk} (h : DiskAt S i D) (hoff : D.off = true)
    (hQ : Q (.ret (.tup [.bool false, .int .i64 10])) S) : RSim Tryz.prog w0 n_disk_Disk_begin [.ptr (some (i, 0))] S Q := by
  have h1 := h.head
  refine RSim.run mixed k_disk_Disk_begin ?_ (by simp)
  simp only [b_disk_Disk_begin, go_sem, h1, Dk.cells, hoff]
  refine wc_ite (b := true) (by simp only [go_sem] <;> rfl) (fun _ => ?_) (fun h => by cases h)
  simp only [go_sem]
  exact hQ

/-! ### look -/
theorem look_nil {w0 : World} {S : St} {Q : AEnd → St → Prop} {v : V} (hQ : Q (.ret (.int .i64 8)) S) : RSim Tryz.prog w0 n_disk_Disk_look [.ptr none, v] S Q := by
  refine RSim.run mixed k_disk_Disk_look ?_ (by simp)
  simp only [b_disk_Disk_look, go_sem]
  refine wc_ite (b := true) (by simp only [go_sem] <;> rfl) (fun _ => ?_) (fun h => by cases h)
  simp only [go_sem]
  exact hQ
def lookE (names : List (List UInt8)) : Int := if names.all nameOk = true then 0 else 1
theorem look_runs {w0 : World} {S : St} {Q : AEnd → St → Prop} {q : Nat × Nat} {names : List (List UInt8)} {t : Tok} (ht : t ≠ .nil) (hn : names.length ≤ 1000000) (hl : ∀ s ∈ names, s.length ≤ 1000000000000000)
    (hQ : Q (.ret (.int .i64 (lookE names))) S) : RSim Tryz.prog w0 n_disk_Disk_look [.ptr (some q), .sl (names.map fun s => .str (mkS s)) names.length 1 t] S Q := by
  refine RSim.run mixed k_disk_Disk_look ?_ (by simp)
  simp only [b_disk_Disk_look, go_sem]
  refine wc_ite (b := false) (by simp only [go_sem] <;> rfl) (fun h => by cases h) (fun _ => ?_)
  simp only [go_sem]
  refine loop_rule RSim.le (k := names.length) (fun m fr S1 => ∃ j : Nat, m = names.length - j ∧ j ≤ names.length ∧ S1 = S ∧ fr 9 = .sl (names.map fun s => .str (mkS s)) names.length 1 t ∧ fr 10 = .int .i64 names.length ∧ fr 11 = .int .i64 j ∧ (names.take j).all nameOk = true) ?_
    ⟨0, rfl, Nat.zero_le _, rfl, by simp only [go_sem], by simp only [go_sem], by simp only [go_sem, Int.natCast_zero], by simp⟩
  rintro m fr S1 ⟨j, hm, hj, hS, f9, f10, f11, ha⟩
  subst hm; subst hS
  simp only [l_disk_Disk_look_0, go_sem, f10, f11]
  refine wc_ite (b := decide ((j : Int) < names.length)) (by simp only [go_sem]) (fun hc => ?_) (fun hc => ?_)
  · have hj2 : j < names.length := by have := of_decide_eq_true hc; omega
    have hb : names[j]? = some (names[j]'hj2) := List.getElem?_eq_getElem hj2
    have hw : IntKind.i64.wrap ((j : Int) + 1) = ((j + 1 : Nat) : Int) := by rw [w64 (by omega) (by omega)]; omega
    have hd : (List.drop (j * 1) (names.map fun s => V.str (mkS s))).head? = some (.str (mkS (names[j]'hj2))) := by
      rw [Nat.mul_one, List.head?_drop, List.getElem?_map, hb]; rfl
    simp only [go_sem, f9, f11, hj2, ht, hd]
    refine wi_call ?_
    simp only [go_sem]
    refine diskName_runs (hl _ (List.getElem_mem hj2)) ?_
    simp only [go_sem]
    refine wc_ite (b := !nameOk (names[j]'hj2)) (by simp only [go_sem]) (fun hc => ?_) (fun hc => ?_)
    · simp only [go_sem]
      have : names.all nameOk = false := by
        rw [Bool.eq_false_iff]
        intro h
        rw [List.all_eq_true] at h
        rw [h _ (List.getElem_mem hj2)] at hc
        cases hc
      simp only [lookE, this] at hQ
      exact hQ
    · simp only [go_sem, f11, hw]
      refine ⟨_, by omega, j + 1, rfl, by omega, by simp only [go_sem, f9], by simp only [go_sem, f10], by simp only [go_sem], ?_⟩
      rw [List.take_add_one, List.all_append, ha, hb]
      simpa using hc
  · have hje : j = names.length := by have := of_decide_eq_false hc; omega
    subst hje
    rw [List.take_length] at ha
    simp only [lookE, ha, if_true] at hQ
    simp only [go_sem]
    exact hQ
end Go.VM
