/-
  slices.Sorted of what maps.Keys hands back, at a map whose keys are strings: by the shelf's contracts.
-/
import Derived.Test.YtegaflmefmlpgaaGreatDoorVmTop
import Derived.Test.YtegaflmefmlpgaaGreatDoorVmStr
import Derived.Test.YtegaflmefmlpgaaGreatDoorDLay
set_option linter.unusedVariables false
set_option linter.unusedSimpArgs false
namespace Go.VM
open Go Go.RowKit Go.Proofs Go.Maps Go.Sort Go.Shelf

theorem insert_perm {H : Type} (x : Lit × DataW H) : ∀ l, (DataW.insert x l).Perm (x :: l)
  | [] => List.Perm.refl _
  | y :: r => by
    unfold DataW.insert
    split
    · exact List.Perm.refl _
    · exact ((insert_perm x r).cons y).trans (List.Perm.swap x y r)
theorem foldr_insert_perm {H : Type} : ∀ l : List (Lit × DataW H), (l.foldr DataW.insert []).Perm l
  | [] => List.Perm.refl _
  | x :: r => (insert_perm x _).trans ((foldr_insert_perm r).cons x)

/-- The world has grown; what was there is as it was. -/
def G.grown (g : G) (w : World) : G := { g with nb := w.heap.size, bs := fun b => if b < g.nb then g.bs b else match w.heap[b]? with | some (.cells us _ _) => us.size | _ => 0 }
theorem le_grown {w0 w w' : World} {g : G} {S : St} (h : RelW w0 g S w) (hB : Below w.heap.size w w') : g.le (g.grown w') :=
  ⟨fun _ _ _ h => h, Nat.le_refl _, fun _ _ => rfl, by rw [h.nb]; exact hB.size, fun b hb => by simp only [G.grown]; rw [if_pos hb]⟩
theorem RelW.grown {w0 w w' : World} {g : G} {S : St} (h : RelW w0 g S w) (hB : Below w.heap.size w w') : RelW w0 (g.grown w') S w' := by
  have hle := le_grown h hB
  refine ⟨h.below.trans (hB.mono h.below.size), rfl, h.n, fun b p u hu => ?_, fun i x hx => ?_, h.sep⟩
  · have hlt := h.iceLt hu
    rw [← h.ice b p u hu]
    exact World.cell?_of_block (hB.block b hlt)
  · obtain ⟨h1, h2, o, h3, h4⟩ := h.hp i x hx
    refine ⟨h1, h2, o, ?_, h4.mono hle (by rw [h.nb]; exact h.lt hx) (fun _ => rfl)⟩
    show w'.heap[(g.loc i).1]? = _
    rw [hB.block _ (h.lt hx)]; exact h3

/-- A row of strings in a block of its own, in a grown world: a slice's value. -/
theorem RelW.strings {w0 w w' : World} {g : G} {S : St} (h : RelW w0 g S w) (hB : Below w.heap.size w w') {e : TypeId} {v : Value} {ss : List (List UInt8)} (hv : w'.ownsRow w.heap.size e 1 v ss.length (ss.map encStr)) (hn : v = .slice none 0 0 ↔ ss = []) :
    ∃ g', g.le g' ∧ RelW w0 g' S w' ∧ RelV g' (.sl (ss.map fun s => .str (mkS s)) ss.length 1 (if ss = [] then .nil else .no)) v := by
  have h1 := h.grown hB
  have l1 := le_grown h hB
  by_cases he : ss = []
  · subst he
    obtain rfl := hn.2 rfl
    exact ⟨_, l1, h1, by rw [if_pos rfl]; exact ⟨by simp, .inl ⟨rfl, rfl, rfl, rfl⟩⟩⟩
  · obtain ⟨_, hv⟩ := hv
    rcases hv with ⟨hv, _⟩ | ⟨gb, cap, cur, rfl, hg, hb, hc, _, _, ht⟩
    · exact absurd (hn.1 hv) he
    · have hxs : ∀ i u, (ss.map encStr)[i]? = some u → w'.cell? ⟨gb, i, none⟩ = some u := fun i u hu => by
        rw [cell_of_row _ _ _ _ _ _ hb]
        rw [← ht, List.getElem?_take] at hu
        split at hu
        · simpa using hu
        · cases hu
      have hold : ∀ i v, (g.grown w').ice gb i = some v → (ss.map encStr)[i]? = some v := fun i v hi => by
        have := h.iceLt (b := gb) (p := i) (u := v) hi
        omega
      refine ⟨(g.grown w').ices gb fun i => (ss.map encStr)[i]?, l1.trans (le_ices _ _ _ hold), h1.ices (fun i y hy => ?_) hold h1.below rfl (fun _ _ _ => rfl) (fun i v hi => hxs i v hi), ?_⟩
      · have := h.lt hy
        show (g.loc i).1 ≠ gb
        omega
      · rw [if_neg he]
        refine ⟨by simp, .inr (.inl ⟨(by intro hh; cases hh), gb, 0, cap, ss.map encStr, rfl, hc, ?_, ?_, fun j v hj => ?_, fun hh => (by cases hh), fun k hk => (by cases hk)⟩)⟩
        · refine RelL_iff.2 ⟨by simp, fun j c u hc hu => ?_⟩
          simp only [List.getElem?_map, Option.map_eq_some_iff] at hc hu
          obtain ⟨s, hs, rfl⟩ := hc
          obtain ⟨s', hs', rfl⟩ := hu
          rw [hs] at hs'
          injection hs' with hs'
          subst hs'
          rfl
        · intro u hu
          simp only [List.mem_map] at hu
          obtain ⟨s, _, rfl⟩ := hu
          rfl
        · show (if gb = gb then _ else _) = _
          rw [if_pos rfl, Nat.zero_add]; exact hj

/-- A map whose keys are strings, in whatever order they came. -/
structure StrMap (es : List (V × V × Nat)) (c : Nat) (ks : List (List UInt8)) : Prop where
  keys : es.map (·.1) = ks.map fun k => V.str (mkS k)
  nodup : ks.Nodup
  short : ∀ k ∈ ks, k.length ≤ maxLen
  born : (es.map (·.2.2)).Nodup
  clock : ∀ e ∈ es, e.2.2 < c

def sortS (ks : List (List UInt8)) : List (List UInt8) := ks.mergeSort leB

/-- A block of cells beside the world: an object whose cells nobody asks for. -/
theorem RelW.fixed {w0 w : World} {g : G} {S : St} (h : RelW w0 g S w) {us : List Value} {cs : List V} {ty : TypeId} (hr : RelL g cs us) :
    ∃ g', g.le g' ∧ RelW w0 g' (S.add (.fix cs)) (w.alloc (.cells us.toArray ty)) ∧ g'.loc S.n = (w.heap.size, 0) ∧ S.n < g'.n := by
  have l1 := le_block h us.toArray 0
  have h1 := h.block us.toArray ty (0, 0) 0
  have hlt : ∀ i y, S.hp i = some y → ((g.block us.toArray 0).loc i).1 ≠ w.heap.size := fun i y hy => by
    have := h.lt hy
    show (g.loc i).1 ≠ _
    omega
  refine ⟨(g.block us.toArray 0).obj w.heap.size 0, l1.trans (le_obj _ _ _), h1.obj (o := .cells us.toArray ty (0, 0)) ?_ h.below.size hlt ⟨rfl, us.toArray, ty, (0, 0), us, rfl, RelL_mono (l1.trans (le_obj _ _ _)) _ _ hr, fun j v hj => by simpa using hj⟩, ?_, ?_⟩
  · exact heap_alloc_new w _
  · simp [G.obj, G.block, h.n]
  · simp [G.obj, G.block, h.n]

abbrev n_keys : Nat := 43
abbrev n_keysIt : Nat := 67
abbrev n_sorted : Nat := 42
theorem mapsKeys_runs {w0 : World} {S : St} {Q : AEnd → St → Prop} {r : Nat} (hQ : Q (.ret (.func n_keysIt [] [.ptr (some (S.n, 0))])) (S.add (.fix [.map (some r)]))) : RSim Tryz.prog w0 n_keys [.map (some r)] S Q := by
  refine ⟨⟨_, Tryz.func43, by kernel_rfl, by kernel_rfl⟩, fun g w us hW hr => ?_⟩
  obtain ⟨u, us', rfl, h1, h2⟩ := hr
  have : us' = [] := h2
  subst this
  obtain ⟨hrn, rfl⟩ : r < g.n ∧ u = .map (some (g.loc r).1) := h1
  have c := callsIn_wide.1 (AnyZ.keys_in Tryz.keysD Fence.wide 5 trivial rfl (some (g.loc r).1) w)
  refine Calls.mono c fun e w' ⟨he, hw⟩ => ?_
  subst he; subst hw
  obtain ⟨g', a1, a2, a3, a4⟩ := hW.fixed (us := [.map (some (g.loc r).1)]) (cs := [.map (some r)]) (ty := 56) ⟨_, _, rfl, ⟨hrn, rfl⟩, rfl⟩
  refine ⟨g', _, .ret (.func n_keysIt [] [.ptr (some (S.n, 0))]), a1, a2, ?_, hQ⟩
  refine ⟨[], [.pointer (some ⟨w.heap.size, 0, none⟩)], rfl, rfl, _, _, rfl, ⟨a4, by rw [a3]⟩, rfl⟩

theorem sorts (m : Nat) : AnyZ.SortsIn Tryz.prog Tryz.sortedD_ren Fence.wide m :=
  ⟨fun blk off cap ss W hH hblk hsz => callsIn_wide.2 (AnyM.slices_Sort_string Tryz.sortD blk off cap ss W hH hblk hsz),
   fun p cap W => callsIn_wide.2 (AnyM.slices_Sort_string_none Tryz.sortD p cap W)⟩

theorem sortedKeys_runs {w0 : World} {S : St} {Q : AEnd → St → Prop} {b r c : Nat} {es : List (V × V × Nat)} {ks : List (List UInt8)} (hb : S.hp b = some (.fix [.map (some r)])) (hr : S.hp r = some (.map es c)) (hm : StrMap es c ks) (hn : ks.length ≤ 1000000000000)
    (hQ : Q (.ret (.sl ((sortS ks).map fun s => .str (mkS s)) ks.length 1 (if ks = [] then .nil else .no))) S) : RSim Tryz.prog w0 n_sorted [.func n_keysIt [] [.ptr (some (b, 0))]] S Q := by
  refine ⟨⟨_, Tryz.func42, by kernel_rfl, by kernel_rfl⟩, fun g w us hW hrel => ?_⟩
  obtain ⟨u, us', rfl, h1, h2⟩ := hrel
  have : us' = [] := h2
  subst this
  obtain ⟨ps, cs, rfl, hps, hcs⟩ := h1
  have : ps = [] := hps
  subst this
  obtain ⟨pb, ps, rfl, ⟨hbn, rfl⟩, hps⟩ := hcs
  have : ps = [] := hps
  subst this
  obtain ⟨_, hb1, o, ho, hq, usb, tyb, frb, xs, rfl, hx1, hx2⟩ := hW.hp b _ hb
  obtain ⟨_, hr1, o', ho', ms, rfl, hM⟩ := hW.hp r _ hr
  obtain ⟨xm, xr, rfl, ⟨hrn, rfl⟩, hxr⟩ := hx1
  have hloc : g.loc b = ((g.loc b).1, 0) := by rw [← hq]
  have hcell : w.cell? ⟨(g.loc b).1, 0, none⟩ = some (.map (some (g.loc r).1)) := by
    rw [cell_of_row _ _ _ _ _ _ ho]
    exact hx2 0 _ rfl
  have hlen : es.length = ks.length := by have := congrArg List.length hm.keys; simpa using this
  have hkeyEq : ms.toList.map (·.key) = ks.map encStr := by
    apply List.ext_getElem?
    intro j
    simp only [List.getElem?_map]
    cases hj : ms.toList[j]? with
    | none =>
      have h1 := List.getElem?_eq_none_iff.1 hj
      rw [List.getElem?_eq_none (by have := hM.1; omega)]; rfl
    | some m =>
      have h1 := (List.getElem?_eq_some_iff.1 hj).1
      have he : es[j]? = some (es[j]'(by have := hM.1; omega)) := List.getElem?_eq_getElem _
      obtain ⟨hk, _⟩ := hM.2 j _ m he hj
      have hk2 : ks[j]? = some (ks[j]'(by have := hM.1; omega)) := List.getElem?_eq_getElem _
      rw [hk2]
      have h3 : (es.map (·.1))[j]? = (ks.map fun k => V.str (mkS k))[j]? := by rw [hm.keys]
      simp only [List.getElem?_map, he, hk2, Option.map_some, Option.some.injEq] at h3
      rw [h3] at hk
      simp only [Option.map_some, Option.some.injEq]
      exact hk
  have hbornEq : ms.toList.map (·.born) = es.map (·.2.2) := by
    apply List.ext_getElem?
    intro j
    simp only [List.getElem?_map]
    cases hj : ms.toList[j]? with
    | none =>
      have h1 := List.getElem?_eq_none_iff.1 hj
      rw [List.getElem?_eq_none (by have := hM.1; omega)]; rfl
    | some m =>
      have h1 := (List.getElem?_eq_some_iff.1 hj).1
      have he : es[j]? = some (es[j]'(by have := hM.1; omega)) := List.getElem?_eq_getElem _
      obtain ⟨_, _, hk, _⟩ := hM.2 j _ m he hj
      rw [he]
      simp only [Option.map_some, Option.some.injEq]
      exact hk
  have hinj : ∀ {a b : List UInt8}, encStr a = encStr b → a = b := fun h => encStr_inj h
  have hSt : MapKept.Stamped ms c := by
    refine ⟨fun x hx => ?_, by rw [hbornEq]; exact hm.born, by rw [hkeyEq]; exact hm.nodup.map _ (fun a b hab e => hab (hinj e))⟩
    have h1 : x.born ∈ ms.toList.map (·.born) := List.mem_map.2 ⟨x, hx, rfl⟩
    rw [hbornEq] at h1
    obtain ⟨e, he, h2⟩ := List.mem_map.1 h1
    rw [← h2]; exact hm.clock e he
  let R : Value → Option (DataW Nat × List MemPlace) := fun _ => some (.nil, [])
  have hU : Tryz.prog.underlying 9 = some .string := by kernel_rfl
  have hrd : ∀ (x : MapEntry) (k : List UInt8), x.key = encStr k → k.length ≤ maxLen → WideElems.rd Tryz.prog 9 R x = some (.string k, .nil) := fun x k h2 hs => by
    have : keyOf Tryz.prog 9 (encStr k) = some (.string k) := by
      simp [keyOf, hU, encStr, mapKey, ByteArray.size]
      exact hs
    simp only [WideElems.rd, h2, R, this]
    rfl
  have hkey : ∀ x ∈ ms.toList, ∃ k ∈ ks, x.key = encStr k := fun x hx => by
    have h1 : x.key ∈ ms.toList.map (·.key) := List.mem_map.2 ⟨x, hx, rfl⟩
    rw [hkeyEq] at h1
    obtain ⟨k, hk, h2⟩ := List.mem_map.1 h1
    exact ⟨k, hk, h2.symm⟩
  have hrg : ms.toList.map (WideElems.rg Tryz.prog 9 R) = ks.map fun k => (.string k, .nil) := by
    apply List.ext_getElem?
    intro j
    have h3 : (ms.toList.map (·.key))[j]? = (ks.map encStr)[j]? := by rw [hkeyEq]
    simp only [List.getElem?_map] at h3 ⊢
    cases hj : ms.toList[j]? with
    | none =>
      rw [hj] at h3
      cases hk : ks[j]? with
      | none => rfl
      | some k => rw [hk] at h3; cases h3
    | some m =>
      rw [hj] at h3
      cases hk : ks[j]? with
      | none => rw [hk] at h3; cases h3
      | some k =>
        rw [hk] at h3
        simp only [Option.map_some, Option.some.injEq] at h3 ⊢
        rw [WideElems.rg, hrd m k h3 (hm.short k (List.mem_of_getElem? hk))]
        rfl
  generalize hD : (.map ((ms.toList.map (WideElems.rg Tryz.prog 9 R)).foldr DataW.insert []) : DataW Nat) = D0
  have hown : w.ownsMap Tryz.prog 9 R (g.loc r).1 ms.size D0 :=
    ⟨ms, c, ho', ⟨by have := hM.1; simp at this; unfold maxLen; omega, hSt, fun x hx => by obtain ⟨k, h4, h5⟩ := hkey x hx; exact ⟨_, hrd x k h5 (hm.short k h4)⟩⟩, Nat.le_refl _, hD.symm⟩
  have hDp : (strKeys D0).Perm ks := by
    rw [← hD, hrg]
    have := (foldr_insert_perm (H := Nat) (ks.map fun k => (Lit.string k, DataW.nil))).map fun p => strOf p.1
    rw [List.map_map] at this
    have e : (ks.map ((fun p : Lit × DataW Nat => strOf p.1) ∘ fun k => (Lit.string k, DataW.nil))) = ks := by
      rw [show ((fun p : Lit × DataW Nat => strOf p.1) ∘ fun k => (Lit.string k, DataW.nil)) = id from by funext k; rfl, List.map_id]
    rw [e] at this
    exact this
  have hDs : Maps.size D0 = ks.length := by
    have := hDp.length_eq
    rw [← hD] at this ⊢
    simpa [strKeys, Maps.size_eq] using this
  have hseq : SeqGives Fence.wide 2 Tryz.prog n_keysIt #[.pointer (some ⟨(g.loc b).1, 0, none⟩)] encStr (fun ss => ss.Perm (strKeys D0)) (Maps.size D0) w :=
    AnyZ.keys_gives (ρ := Tryz.keysD_ren) { Tryz.keysD with } Fence.wide _ trivial rfl (by omega) (g.loc b).1 (g.loc r).1 ms.size D0 w (hW.lt hb) hcell hown
  have cS := AnyZ.sorted_in Tryz.sortedD Fence.wide 5 trivial trivial trivial trivial rfl (by omega) (sorts _) (enters_of Tryz.func66 (by kernel_rfl) rfl) n_keysIt #[.pointer (some ⟨(g.loc b).1, 0, none⟩)] trivial
    (enters_of Tryz.func67 (by kernel_rfl) rfl) _ _ (by rw [hDs]; unfold maxLen; omega) (by rw [hDs]; omega) _ hseq
  have hl : Value.func (.func n_keysIt) [].toArray [Value.pointer (some ⟨(g.loc b).1, (g.loc b).2 + 0, none⟩)].toArray = .func (.func n_keysIt) #[] #[.pointer (some ⟨(g.loc b).1, 0, none⟩)] := by
    rw [hloc]
  have hx := callsIn_wide.1 cS
  rw [show [Value.func (.func n_keysIt) [].toArray [Value.pointer (some ⟨(g.loc b).1, (g.loc b).2 + 0, none⟩)].toArray].toArray = #[.func (.func n_keysIt) #[] #[.pointer (some ⟨(g.loc b).1, 0, none⟩)]] from by rw [hl]]
  refine Calls.mono hx fun e w' ⟨v, ss, he, hS, hrow, hnil, hB⟩ => ?_
  subst he
  have hp : ss.Perm ks := hS.trans hDp
  have hsort : ss.mergeSort leB = sortS ks := mergeSort_of_perm hp
  have hlen2 : ss.length = ks.length := hp.length_eq
  have hlen3 : (sortS ks).length = ks.length := List.length_mergeSort ks
  have hrow' : w'.ownsRow w.heap.size 9 1 v (sortS ks).length ((sortS ks).map encStr) := by
    have h6 : w'.ownsRow w.heap.size 9 1 v ss.length ((ss.mergeSort leB).map encStr) := hrow
    rw [hsort] at h6
    rw [hlen3, ← hlen2]; exact h6
  have hnil' : v = .slice none 0 0 ↔ sortS ks = [] := by
    rw [hnil]
    constructor
    · rintro rfl
      exact List.eq_nil_of_length_eq_zero (by rw [hlen3, ← hlen2]; rfl)
    · intro h
      exact List.eq_nil_of_length_eq_zero (by rw [hlen2, ← hlen3, h]; rfl)
  obtain ⟨g', a1, a2, a3⟩ := hW.strings hB hrow' hnil'
  refine ⟨g', S, .ret (.sl ((sortS ks).map fun s => .str (mkS s)) (sortS ks).length 1 (if sortS ks = [] then .nil else .no)), a1, a2, a3, ?_⟩
  have he : sortS ks = [] ↔ ks = [] := by
    rw [← List.length_eq_zero_iff, hlen3, List.length_eq_zero_iff]
  rw [hlen3]
  simpa only [he] using hQ
end Go.VM
