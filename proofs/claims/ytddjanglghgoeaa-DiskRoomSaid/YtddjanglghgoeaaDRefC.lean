/-
  The document's disk and the other are the same: plain. NEWPP
-/
import Derived.Test.YtddjanglghgoeaaDRefB
set_option maxRecDepth 20000
set_option linter.unusedVariables false
set_option linter.unusedSimpArgs false
namespace Go.VM
open Go Go.RowKit Go.Proofs Go.Maps Go.Sort Go.Shelf

theorem mem_putF {y : File} : ∀ {m : List File}, (m.map (·.name)).Nodup → ∀ z, z ∈ putF y m ↔ z = y ∨ (z ∈ m ∧ z.name ≠ y.name)
  | [], _, z => by simp [putF]
  | x :: m, h, z => by
    rw [List.map_cons, List.nodup_cons] at h
    unfold putF
    by_cases e : x.name = y.name
    · rw [if_pos e, List.mem_cons, List.mem_cons]
      constructor
      · rintro (rfl | hz)
        · exact .inl rfl
        · exact .inr ⟨.inr hz, fun e' => h.1 (List.mem_map.2 ⟨z, hz, by rw [e, e']⟩)⟩
      · rintro (rfl | ⟨rfl | hz, hne⟩)
        · exact .inl rfl
        · exact absurd e hne
        · exact .inr hz
    · rw [if_neg e, List.mem_cons, List.mem_cons, mem_putF h.2 z]
      constructor
      · rintro (rfl | rfl | ⟨hz, hne⟩)
        · exact .inr ⟨.inl rfl, e⟩
        · exact .inl rfl
        · exact .inr ⟨.inr hz, hne⟩
      · rintro (rfl | ⟨rfl | hz, hne⟩)
        · exact .inr (.inl rfl)
        · exact .inl rfl
        · exact .inr (.inr ⟨hz, hne⟩)
theorem mem_delF {s : List UInt8} : ∀ {m : List File}, (m.map (·.name)).Nodup → ∀ z, z ∈ delF s m ↔ z ∈ m ∧ z.name ≠ s
  | [], _, z => by simp [delF]
  | x :: m, h, z => by
    rw [List.map_cons, List.nodup_cons] at h
    unfold delF
    by_cases e : x.name = s
    · rw [if_pos e, List.mem_cons]
      constructor
      · intro hz
        exact ⟨.inr hz, fun e' => h.1 (List.mem_map.2 ⟨z, hz, by rw [e, e']⟩)⟩
      · rintro ⟨rfl | hz, hne⟩
        · exact absurd e hne
        · exact hz
    · rw [if_neg e, List.mem_cons, List.mem_cons, mem_delF h.2 z]
      constructor
      · rintro (rfl | ⟨hz, hne⟩)
        · exact ⟨.inl rfl, e⟩
        · exact ⟨.inr hz, hne⟩
      · rintro ⟨rfl | hz, hne⟩
        · exact .inl rfl
        · exact .inr ⟨hz, hne⟩

theorem name_inj {l : List RF} (h : (l.map (·.name)).Nodup) {i j : Nat} {f g : RF} (hi : l[i]? = some f) (hj : l[j]? = some g) (e : f.name = g.name) : i = j := by
  have hi' : (l.map (·.name))[i]? = some f.name := by rw [List.getElem?_map, hi]; rfl
  have hj' : (l.map (·.name))[j]? = some g.name := by rw [List.getElem?_map, hj]; rfl
  have h1 := (List.getElem?_eq_some_iff.1 hi').1
  exact (List.getElem?_inj h1 h).1 (by rw [hi', hj', e])
theorem Alike.begun {D : DS} {R : RS} (h : Alike D R) : Alike D.begun R.begun :=
  ⟨h.mem, h.sorted, h.room, by simp only [DS.begun, RS.begun, h.arm], by simp only [DS.begun, RS.begun, h.arm], by simp only [DS.begun, RS.begun, h.ops]⟩
theorem begun_off {D : DS} {R : RS} (h : Alike D R) : R.begun.off = D.begun.off := by simp only [DS.begun, RS.begun, h.arm]
/-- A file is another one, of the same name. -/
theorem Alike.set {D : DS} {R : RS} (h : Alike D R) (hn : (D.files.map (·.name)).Nodup) {j : Nat} {f f' : RF} (hf : R.l[j]? = some f) (he : f'.name = f.name) {u : Int} :
    Alike { D with files := putF f'.file D.files, used := u } { R with l := R.l.set j f' } := by
  have hj := (List.getElem?_eq_some_iff.1 hf).1
  refine ⟨fun z => ?_, ?_, h.room, h.arm, h.off, h.ops⟩
  · show z ∈ (R.l.set j f').map RF.file ↔ z ∈ putF f'.file D.files
    rw [mem_putF hn, ← h.mem]
    constructor
    · intro hz
      obtain ⟨g, hg, rfl⟩ := List.mem_map.1 hz
      obtain ⟨i, hi⟩ := List.mem_iff_getElem?.1 hg
      rw [List.getElem?_set] at hi
      by_cases hij : j = i
      · rw [if_pos hij, if_pos (by omega)] at hi
        injection hi with hi; subst hi; exact .inl rfl
      · rw [if_neg hij] at hi
        refine .inr ⟨List.mem_map.2 ⟨g, List.mem_of_getElem? hi, rfl⟩, fun e => hij (name_inj h.nodup hf hi ?_)⟩
        exact (show g.name = f.name from (show g.name = f'.name from e).trans he).symm
    · rintro (rfl | ⟨hz, hne⟩)
      · exact List.mem_map.2 ⟨f', List.mem_iff_getElem?.2 ⟨j, by rw [List.getElem?_set, if_pos rfl, if_pos hj]⟩, rfl⟩
      · obtain ⟨g, hg, rfl⟩ := List.mem_map.1 hz
        obtain ⟨i, hi⟩ := List.mem_iff_getElem?.1 hg
        refine List.mem_map.2 ⟨g, List.mem_iff_getElem?.2 ⟨i, ?_⟩, rfl⟩
        rw [List.getElem?_set, if_neg]
        · exact hi
        · rintro rfl
          rw [hf] at hi; injection hi with hi; subst hi
          exact hne he.symm
  · show ((R.l.set j f').map (·.name)).Pairwise (· < ·)
    have : (R.l.set j f').map (·.name) = R.l.map (·.name) := by
      refine List.ext_getElem? fun i => ?_
      rw [List.getElem?_map, List.getElem?_map, List.getElem?_set]
      split
      · rename_i e; subst e; rw [hf]; simp [he]
      · rfl
    rw [this]; exact h.sorted
/-- A file more, in its place. -/
theorem Alike.insert {D : DS} {R : RS} (h : Alike D R) (hn : (D.files.map (·.name)).Nodup) {k : Nat} {f : RF} (h1 : ∀ g ∈ R.l.take k, g.name < f.name) (h2 : ∀ g ∈ R.l.drop k, f.name < g.name) {u : Int} :
    Alike { D with files := putF f.file D.files, used := u } { R with l := R.l.take k ++ f :: R.l.drop k } := by
  have hno : ∀ g ∈ R.l, g.name ≠ f.name := fun g hg e => by
    rw [← List.take_append_drop k R.l, List.mem_append] at hg
    rcases hg with hg | hg
    · exact lt_irr _ (e ▸ h1 g hg)
    · exact lt_irr _ (e ▸ h2 g hg)
  refine ⟨fun z => ?_, ?_, h.room, h.arm, h.off, h.ops⟩
  · show z ∈ (R.l.take k ++ f :: R.l.drop k).map RF.file ↔ z ∈ putF f.file D.files
    have e : z ∈ (R.l.take k ++ f :: R.l.drop k).map RF.file ↔ z = f.file ∨ z ∈ R.l.map RF.file := by
      conv => rhs; rw [← List.take_append_drop k R.l]
      simp only [List.map_append, List.map_cons, List.mem_append, List.mem_cons]
      constructor
      · rintro (a | a | a)
        · exact .inr (.inl a)
        · exact .inl a
        · exact .inr (.inr a)
      · rintro (a | a | a)
        · exact .inr (.inl a)
        · exact .inl a
        · exact .inr (.inr a)
    rw [mem_putF hn, ← h.mem, e]
    refine or_congr Iff.rfl ⟨fun hz => ⟨hz, fun e => ?_⟩, fun hz => hz.1⟩
    obtain ⟨g, hg, rfl⟩ := List.mem_map.1 hz
    exact hno g hg e
  · show ((R.l.take k ++ f :: R.l.drop k).map (·.name)).Pairwise (· < ·)
    have hs := h.sorted
    rw [← List.take_append_drop k R.l, List.map_append, List.pairwise_append] at hs
    rw [List.map_append, List.map_cons, List.pairwise_append]
    refine ⟨hs.1, List.pairwise_cons.2 ⟨fun b hb => ?_, hs.2.1⟩, fun a ha b hb => ?_⟩
    · obtain ⟨g, hg, rfl⟩ := List.mem_map.1 hb; exact h2 g hg
    · obtain ⟨g, hg, rfl⟩ := List.mem_map.1 ha
      rcases List.mem_cons.1 hb with rfl | hb'
      · exact h1 g hg
      · exact hs.2.2 _ ha _ hb'
theorem mem_dropR {s : List UInt8} {l : List RF} {g : RF} : g ∈ dropR s l ↔ g ∈ l ∧ g.name ≠ s := by simp [dropR]
theorem Alike.drop {D : DS} {R : RS} (h : Alike D R) (hn : (D.files.map (·.name)).Nodup) (s : List UInt8) {u : Int} : Alike { D with files := delF s D.files, used := u } { R with l := dropR s R.l } := by
  refine ⟨fun z => ?_, ?_, h.room, h.arm, h.off, h.ops⟩
  · show z ∈ (dropR s R.l).map RF.file ↔ z ∈ delF s D.files
    rw [mem_delF hn, ← h.mem]
    constructor
    · intro hz
      obtain ⟨g, hg, rfl⟩ := List.mem_map.1 hz
      exact ⟨List.mem_map.2 ⟨g, (mem_dropR.1 hg).1, rfl⟩, (mem_dropR.1 hg).2⟩
    · rintro ⟨hz, hne⟩
      obtain ⟨g, hg, rfl⟩ := List.mem_map.1 hz
      exact List.mem_map.2 ⟨g, mem_dropR.2 ⟨hg, hne⟩, rfl⟩
  · exact h.sorted.sublist (List.filter_sublist.map _)
theorem nd_of_map {α β : Type} {f : α → β} {l : List α} (h : (l.map f).Nodup) : l.Nodup := List.Pairwise.of_map f (fun a b h e => h (by rw [e])) h
theorem Alike.perm {D : DS} {R : RS} (h : Alike D R) (hn : (D.files.map (·.name)).Nodup) : (R.l.map RF.file).Perm D.files := by
  refine (List.perm_ext_iff_of_nodup ?_ ?_).2 h.mem
  · have : ((R.l.map RF.file).map (·.name)).Nodup := by rw [List.map_map]; exact h.nodup
    exact nd_of_map this
  · exact nd_of_map hn
def sumFl (l : List File) : Nat := (l.map fun x => x.p.length).sum
theorem Alike.sum {D : DS} {R : RS} (h : Alike D R) (hn : (D.files.map (·.name)).Nodup) : sumR R.l = sumFl D.files := by
  have := ((h.perm hn).map fun x => x.p.length).sum_nat
  rw [List.map_map] at this
  exact this
theorem Alike.len {D : DS} {R : RS} (h : Alike D R) (hn : (D.files.map (·.name)).Nodup) : R.l.length = D.files.length := by
  have := (h.perm hn).length_eq
  simpa using this
theorem Alike.names {D : DS} {R : RS} (h : Alike D R) (hn : (D.files.map (·.name)).Nodup) : D.names = R.l.map (·.name) := by
  have hp : (R.l.map (·.name)).Perm (D.files.map (·.name)) := by
    have := (h.perm hn).map (fun x : File => x.name)
    rwa [List.map_map] at this
  unfold DS.names sortS
  rw [← mergeSort_of_perm hp]
  exact List.mergeSort_of_pairwise (h.sorted.imp fun h => by simp only [leB, decide_eq_true_eq]; exact List.le_of_lt h)
theorem lt_of_not {a s : List UInt8} (h : ¬ a < s) (hne : a ≠ s) : s < a := by
  have h : s ≤ a := h
  rcases List.le_iff_lt_or_eq.1 h with h | h
  · exact h
  · exact absurd h.symm hne
/-- Where a new name stands. -/
theorem place {R : RS} {D : DS} (h : Alike D R) {s : List UInt8} (hno : ∀ f ∈ R.l, f.name ≠ s) {k : Nat} (hlt : ∀ (i : Nat) (g : RF), i < k → R.l[i]? = some g → g.name < s) (hend : ∀ g : RF, R.l[k]? = some g → ¬ g.name < s) :
    (∀ g ∈ R.l.take k, g.name < s) ∧ (∀ g ∈ R.l.drop k, s < g.name) := by
  refine ⟨fun g hg => ?_, fun g hg => ?_⟩
  · obtain ⟨i, hi⟩ := List.mem_iff_getElem?.1 hg
    rw [List.getElem?_take] at hi
    split at hi
    · exact hlt i g (by assumption) hi
    · cases hi
  · obtain ⟨i, hi⟩ := List.mem_iff_getElem?.1 hg
    rw [List.getElem?_drop] at hi
    have hkl : k < R.l.length := by have := (List.getElem?_eq_some_iff.1 hi).1; omega
    have hk : R.l[k]? = some (R.l[k]'hkl) := List.getElem?_eq_getElem hkl
    have h0 := lt_of_not (hend _ hk) (hno _ (List.getElem_mem _))
    rcases Nat.eq_zero_or_pos i with rfl | hip
    · rw [Nat.add_zero, hk] at hi
      injection hi with hi
      rw [← hi]; exact h0
    · have hs := h.sorted
      have h1 : k < (R.l.map (·.name)).length := by simpa using hkl
      have h2 : k + i < (R.l.map (·.name)).length := by simpa using (List.getElem?_eq_some_iff.1 hi).1
      have := List.pairwise_iff_getElem.1 hs k (k + i) h1 h2 (by omega)
      simp only [List.getElem_map, (List.getElem?_eq_some_iff.1 hi).2] at this
      exact lt_tr h0 this
theorem nd_del' {s : List UInt8} : ∀ {m : List File}, (m.map (·.name)).Nodup → ((delF s m).map (·.name)).Nodup
  | [], _ => by simp [delF]
  | y :: r, h => by
    have h0 := h
    rw [List.map_cons, List.nodup_cons] at h
    unfold delF
    by_cases e : y.name = s
    · rw [if_pos e]; exact h.2
    · rw [if_neg e, List.map_cons, List.nodup_cons]
      refine ⟨fun hm => ?_, nd_del' h.2⟩
      obtain ⟨z, hz, e'⟩ := List.mem_map.1 hm
      exact h.1 (List.mem_map.2 ⟨z, ((mem_delF h.2 z).1 hz).1, e'⟩)
theorem findF_mem' {s : List UInt8} {x : File} : ∀ {l : List File}, findF s l = some x → x ∈ l ∧ x.name = s
  | y :: r, h => by
    unfold findF at h
    split at h
    · injection h with h; subst h; exact ⟨by simp, by assumption⟩
    · exact ⟨List.mem_cons_of_mem _ (findF_mem' h).1, (findF_mem' h).2⟩
theorem nd_putF' {y : File} : ∀ {m : List File}, (m.map (·.name)).Nodup → ((putF y m).map (·.name)).Nodup
  | [], _ => by simp [putF]
  | x :: r, h => by
    have h0 := h
    rw [List.map_cons, List.nodup_cons] at h
    unfold putF
    by_cases e : x.name = y.name
    · rw [if_pos e, List.map_cons, ← e]; exact h0
    · rw [if_neg e, List.map_cons, List.nodup_cons]
      refine ⟨fun hm => ?_, nd_putF' h.2⟩
      obtain ⟨z, hz, e'⟩ := List.mem_map.1 hm
      rcases (mem_putF h.2 z).1 hz with rfl | ⟨hz, _⟩
      · exact e e'.symm
      · exact h.1 (List.mem_map.2 ⟨z, hz, e'⟩)
theorem Alike.congr {D D' : DS} {R : RS} (h : Alike D R) (hm : ∀ z, z ∈ D.files ↔ z ∈ D'.files) (h1 : D.room = D'.room) (h2 : D.arm = D'.arm) (h3 : D.off = D'.off) (h4 : D.ops = D'.ops) : Alike D' R :=
  ⟨fun z => (h.mem z).trans (hm z), h.sorted, h.room.trans h1, h.arm.trans h2, h.off.trans h3, h.ops.trans h4⟩
end Go.VM
