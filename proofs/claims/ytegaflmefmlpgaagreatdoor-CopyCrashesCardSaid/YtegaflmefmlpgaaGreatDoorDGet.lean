/-
  Arm, On, Ops, Used, Sure, Names, Read. NEWPP
-/
import Derived.Test.YtegaflmefmlpgaaGreatDoorDBase
set_option linter.unusedVariables false
set_option linter.unusedSimpArgs false
namespace Go.VM
open Go Go.RowKit Go.Proofs

theorem arm_runs {w0 : World} {S : St} {Q : AEnd → St → Prop} {i : Nat} {D : Dk} {n : Int} (h : DiskAt S i D)
    (hQ : ∀ S', 0 ≤ n → DiskAt S' i { D with arm := n } → Keeps (fun j => j = i) S S' → Q (.ret (.int .i64 0)) S') (hQ' : n < 0 → Q (.ret (.int .i64 1)) S) : RSim Tryz.prog w0 n_disk_Disk_Arm [.ptr (some (i, 0)), .int .i64 n] S Q := by
  have h1 := h.head
  refine RSim.run mixed k_disk_Disk_Arm ?_ (by simp)
  simp only [b_disk_Disk_Arm, go_sem, h1, Dk.cells]
  refine wc_ite (b := false) (by simp only [go_sem] <;> rfl) (fun h => by cases h) (fun _ => ?_)
  simp only [go_sem, h1, Dk.cells]
  refine wc_ite (b := decide (n < 0)) (by simp only [go_sem]) (fun hc => ?_) (fun hc => ?_)
  · simp only [go_sem]
    exact hQ' (of_decide_eq_true hc)
  · simp only [go_sem, h1, Dk.cells]
    obtain ⟨h2, k2⟩ := h.head' (D' := { D with arm := n }) rfl rfl rfl ⟨h.wf.used, h.wf.fits, h.wf.room, h.wf.sure, h.wf.names⟩
    exact hQ _ (by have := of_decide_eq_false hc; omega) h2 k2
theorem arm_nil {w0 : World} {S : St} {Q : AEnd → St → Prop} {n : Int} (hQ : Q (.ret (.int .i64 8)) S) : RSim Tryz.prog w0 n_disk_Disk_Arm [.ptr none, .int .i64 n] S Q := by
  refine RSim.run mixed k_disk_Disk_Arm ?_ (by simp)
  simp only [b_disk_Disk_Arm, go_sem]
  refine wc_ite (b := true) (by simp only [go_sem] <;> rfl) (fun _ => ?_) (fun h => by cases h)
  simp only [go_sem]
  exact hQ
theorem names_nil {w0 : World} {S : St} {Q : AEnd → St → Prop} (hQ : Q (.ret (.sl [] 0 1 .nil)) S) : RSim Tryz.prog w0 n_disk_Disk_Names [.ptr none] S Q := by
  refine RSim.run mixed k_disk_Disk_Names ?_ (by simp)
  simp only [b_disk_Disk_Names, go_sem]
  refine wc_ite (b := true) (by simp only [go_sem] <;> rfl) (fun _ => ?_) (fun h => by cases h)
  simp only [go_sem]
  exact hQ
def strsV (l : List (List UInt8)) (t : Tok) : V := .sl (l.map fun s => .str (mkS s)) l.length 1 t
def Dk.names (D : Dk) : List (List UInt8) := sortS (D.ents.map (·.name))
theorem names_runs {w0 : World} {S : St} {Q : AEnd → St → Prop} {i : Nat} {D : Dk} (h : DiskAt S i D) (hn : D.ents.length ≤ 1000000000)
    (hQ : ∀ S' t, (t = .nil → D.ents = []) → (t ≠ .nil → t = .no) → Keeps (fun _ => False) S S' → Q (.ret (strsV D.names t)) S') : RSim Tryz.prog w0 n_disk_Disk_Names [.ptr (some (i, 0))] S Q := by
  have h1 := h.head
  have k0 : Keeps (fun _ => False) S (S.add (.fix [.map (some D.m)])) := (Keeps.refl _ S).add _
  refine RSim.run mixed k_disk_Disk_Names ?_ (by simp)
  simp only [b_disk_Disk_Names, go_sem, h1, Dk.cells]
  refine wc_ite (b := false) (by simp only [go_sem] <;> rfl) (fun h => by cases h) (fun _ => ?_)
  simp only [go_sem, h1, Dk.cells]
  refine wi_call ?_
  simp only [go_sem]
  refine mapsKeys_runs ?_
  simp only [go_sem]
  refine wi_call ?_
  simp only [go_sem]
  have hm : (S.add (.fix [.map (some D.m)])).hp D.m = some (.map (D.ents.map Ent.cell) D.c) := hp_keep h.map k0 h.mlt id
  refine sortedKeys_runs (r := D.m) (by simp only [St.add_hp, if_true]) hm h.strMap (by simp; omega) ?_
  simp only [go_sem]
  have hl : (sortS (D.ents.map (·.name))).length = (D.ents.map (·.name)).length := List.length_mergeSort _
  have hq := hQ (S.add (.fix [.map (some D.m)])) (if D.ents.map (·.name) = [] then .nil else .no) (fun e => by
    split at e
    · rename_i hh; simpa using hh
    · cases e) (fun e => by
    split at e
    · exact absurd rfl e
    · rename_i hh; rw [if_neg hh]) k0
  simp only [strsV, Dk.names, hl] at hq
  exact hq

/-- What Read and the like ask first. -/
theorem lookE_one (s : List UInt8) : lookE [s] = if nameOk s = true then 0 else 1 := by
  simp only [lookE, List.all_cons, List.all_nil, Bool.and_true]
theorem look1_runs {w0 : World} {S : St} {Q : AEnd → St → Prop} {q : Nat × Nat} {s : List UInt8} (hl : s.length ≤ 1000000000000000)
    (hQ : nameOk s = true → Q (.ret (.int .i64 0)) S) (hQ' : nameOk s = false → Q (.ret (.int .i64 1)) S) : RSim Tryz.prog w0 n_disk_Disk_look [.ptr (some q), .sl [.str (mkS s)] 1 1 .cap] S Q := by
  refine look_runs (names := [s]) (t := .cap) (by intro h; cases h) (by simp) (by simpa using hl) ?_
  rw [lookE_one]
  cases h : nameOk s
  · exact hQ' h
  · exact hQ h

theorem read_nil {w0 : World} {S : St} {Q : AEnd → St → Prop} {s : List UInt8} (hQ : Q (.ret (.tup [.sl [] 0 1 .nil, .int .i64 8])) S) : RSim Tryz.prog w0 n_disk_Disk_Read [.ptr none, .str (mkS s)] S Q := by
  refine RSim.run mixed k_disk_Disk_Read ?_ (by simp)
  simp only [b_disk_Disk_Read, go_sem]
  refine wi_call ?_
  simp only [go_sem]
  refine look_nil ?_
  simp only [go_sem]
  refine wc_ite (b := true) (by simp only [go_sem] <;> rfl) (fun _ => ?_) (fun h => by cases h)
  simp only [go_sem]
  exact hQ
/-- The error that Sync, Remove, Read tell ahead of all else. -/
def Dk.thereE (D : Dk) (s : List UInt8) : Int := if nameOk s = false then 1 else if D.off = true then 10 else 8
theorem read_runs {w0 : World} {S : St} {Q : AEnd → St → Prop} {i : Nat} {D : Dk} {s : List UInt8} (h : DiskAt S i D) (hl : s.length ≤ 1000000000000000)
    (hQ : ∀ a e b S' v, nameOk s = true → D.off = false → D.ents = a ++ e :: b → e.name = s → (∀ x ∈ a, x.name ≠ s) → IsBytes v e.p → Keeps (fun _ => False) S S' → Q (.ret (.tup [v, .int .i64 0])) S')
    (hQ' : (nameOk s = false ∨ D.off = true ∨ ∀ x ∈ D.ents, x.name ≠ s) → Q (.ret (.tup [.sl [] 0 1 .nil, .int .i64 (D.thereE s)])) S) : RSim Tryz.prog w0 n_disk_Disk_Read [.ptr (some (i, 0)), .str (mkS s)] S Q := by
  have h1 := h.head
  have hm := h.map
  refine RSim.run mixed k_disk_Disk_Read ?_ (by simp)
  simp only [b_disk_Disk_Read, go_sem]
  refine wi_call ?_
  simp only [go_sem]
  refine look1_runs hl (fun hn => ?_) (fun hn => ?_)
  · simp only [Dk.thereE, hn, if_false, reduceCtorEq] at hQ'
    simp only [go_sem]
    refine wc_ite (b := false) (by simp only [go_sem] <;> rfl) (fun h => by cases h) (fun _ => ?_)
    simp only [go_sem, h1, Dk.cells]
    refine wc_ite (b := D.off) (by simp only [go_sem]) (fun hc => ?_) (fun hc => ?_)
    · simp only [go_sem]
      rw [if_pos hc] at hQ'
      exact hQ' (.inr (.inl hc))
    · rw [if_neg (by rw [hc]; simp)] at hQ'
      rcases find_cases s D.ents with ⟨a, e, b, he, hs, ha⟩ | hno
      · have hf := findE_some (b := b) hs a 0 ha
        rw [← he] at hf
        have hE := h.ents e (by rw [he]; simp)
        simp only [go_sem, h1, hm, hf, Dk.cells]
        refine wc_ite (b := false) (by simp only [go_sem] <;> rfl) (fun h => by cases h) (fun _ => ?_)
        have hw := h.wf.sure e (by rw [he]; simp)
        have hlen : e.p.length ≤ 67108864 := by
          have h2 := h.wf.used
          have h3 := h.wf.fits
          have h4 := h.wf.room
          have h5 : e.p.length ≤ sumLen D.ents := by rw [he]; simp [sumLen]; omega
          omega
        simp only [go_sem, h1, hm, hf, Dk.cells, hE.cells]
        refine wi_append (n := 0) (cs := []) (t := .nil) (m := e.p.length) (xs := e.p.map u8V) (by simp only [go_sem]) (by
          simp only [go_sem, V.elems]
          split
          · rename_i ht; rw [hE.nil ht]; rfl
          · rfl) (by simp) (by simp [roomOk]; omega) trivial (fun _ => ⟨rfl, rfl⟩) fun t' S' k ht' hn' hz => ?_
        rw [tokOwn_nil] at k
        simp only [go_sem]
        exact hQ a e b S' _ hn hc he hs ha ⟨t', rfl, fun ht => List.eq_nil_of_length_eq_zero (hz ht).1⟩ k
      · have hf := findE_none D.ents 0 hno
        simp only [go_sem, h1, hm, hf, Dk.cells]
        refine wc_ite (b := true) (by simp only [go_sem] <;> rfl) (fun _ => ?_) (fun h => by cases h)
        simp only [go_sem]
        exact hQ' (.inr (.inr hno))
  · simp only [Dk.thereE, hn, if_true] at hQ'
    simp only [go_sem]
    refine wc_ite (b := true) (by simp only [go_sem] <;> rfl) (fun _ => ?_) (fun h => by cases h)
    simp only [go_sem]
    exact hQ' (.inl trivial)
end Go.VM
