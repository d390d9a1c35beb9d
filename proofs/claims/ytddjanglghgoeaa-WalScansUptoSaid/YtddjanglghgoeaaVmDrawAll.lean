/-
  The value machine: a region that draws its order, whole.
-/
import Derived.Test.YtddjanglghgoeaaVmDrawGo
set_option linter.unusedVariables false
set_option linter.unusedSimpArgs false
namespace Go.VM
open Go Go.RowKit

section
variable {P : Program} {w0 : World} {n : Nat} {ops : Array Oper} {B : List Nat} {q : Seq} {fr0 : Fr} {K : Fr → St → Prop} {Kp : V → St → Prop} {g0 : G}

def lst (l : Array Bool) (i : Nat) : Bool := l.getD i false
def upL (L : Nat → Bool) (i : Nat) : Nat → Bool := fun j => if j = i then true else L j
/-- How many are left. -/
def leftN (ops : Array Oper) (L : Nat → Bool) : Nat := ((List.range ops.size).filter fun i => !L i).length

theorem lst_set {l : Array Bool} {i : Nat} (hi : i < l.size) : lst (l.setIfInBounds i true) = upL (lst l) i := by
  funext j
  unfold lst upL
  by_cases h : j = i
  · subst h; simp [Array.getElem?_setIfInBounds, hi]
  · rw [if_neg h]; simp [Array.getElem?_setIfInBounds_ne (Ne.symm h)]
theorem left_up {L : Nat → Bool} {i : Nat} (hi : i < ops.size) (hL : L i = false) : leftN ops (upL L i) < leftN ops L := by
  unfold leftN
  have hsub : ∀ l : List Nat, (l.filter fun j => !upL L i j).length ≤ (l.filter fun j => !L j).length := fun l => by
    induction l with
    | nil => simp
    | cons x r ih =>
      simp only [List.filter_cons]
      by_cases hx : x = i
      · subst hx
        have e1 : upL L x x = true := by simp [upL]
        rw [e1, hL]
        simp only [Bool.not_true, Bool.not_false, Bool.false_eq_true, if_false, if_true, List.length_cons]
        omega
      · have : upL L i x = L x := by simp [upL, hx]
        rw [this]
        split <;> simp <;> omega
  have hstrict : ∀ l : List Nat, i ∈ l → (l.filter fun j => !upL L i j).length < (l.filter fun j => !L j).length := fun l hl => by
    induction l with
    | nil => cases hl
    | cons x r ih =>
      simp only [List.filter_cons]
      by_cases hx : x = i
      · subst hx
        have e1 : upL L x x = true := by simp [upL]
        rw [e1, hL]
        simp only [Bool.not_true, Bool.not_false, Bool.false_eq_true, if_false, if_true, List.length_cons]
        exact Nat.lt_succ_of_le (hsub r)
      · have : upL L i x = L x := by simp [upL, hx]
        rw [this]
        rcases List.mem_cons.1 hl with rfl | hl
        · exact absurd rfl hx
        · have := ih hl
          split <;> simp <;> omega
  exact hstrict _ (by simpa using hi)

theorem ready_iff {l : Array Bool} (hl : l.size = ops.size) {i : Nat} : i ∈ Region.ready .any ops l ↔ i < ops.size ∧ lst l i = false ∧ ∃ o, ops[i]? = some o ∧ ∀ d ∈ depsOf o, lst l d = true := by
  unfold Region.ready
  rw [List.mem_filter]
  constructor
  · rintro ⟨h1, h2⟩
    have hi : i < ops.size := by simpa using h1
    simp only [Bool.and_eq_true, Bool.not_eq_true'] at h2
    obtain ⟨h2, h3⟩ := h2
    have ho : ops[i]? = some ops[i] := Array.getElem?_eq_getElem hi
    rw [ho] at h3
    simp only [Option.map_some, Option.getD_some] at h3
    refine ⟨hi, ?_, ops[i], ho, fun d hd => ?_⟩
    · unfold lst
      have : i < l.size := by omega
      simp [this] at h2 ⊢
      exact h2
    · unfold depsOf at hd
      obtain ⟨e, he, hde⟩ := List.mem_filterMap.1 hd
      have := Array.all_eq_true'.1 h3 e (by simpa using he)
      split at hde <;> (try (cases hde; done))
      rename_i hb
      injection hde with hde
      simp only [hb, Bool.not_true, Bool.false_or] at this
      rw [← hde]
      exact this
  · rintro ⟨hi, h2, o, ho, h3⟩
    refine ⟨by simpa using hi, ?_⟩
    simp only [Bool.and_eq_true, Bool.not_eq_true']
    refine ⟨?_, ?_⟩
    · unfold lst at h2
      have : i < l.size := by omega
      simp [this] at h2 ⊢
      exact h2
    · rw [ho]
      simp only [Option.map_some, Option.getD_some]
      rw [Array.all_eq_true']
      intro e he
      cases hb : Region.binds .any e with
      | false => rfl
      | true =>
        simp only [Bool.not_true, Bool.false_or]
        exact h3 e.on (List.mem_filterMap.2 ⟨e, by simpa using he, by simp [hb]⟩)

/-- What is done is done together with all ahead of it. -/
def Down (ops : Array Oper) (L : Nat → Bool) : Prop := ∀ i o, ops[i]? = some o → L i = true → ∀ d ∈ depsOf o, L d = true

theorem Down.bef {L : Nat → Bool} (hok : DOk P n ops B q) (h : Down ops L) {i : Nat} {o : Oper} (ho : ops[i]? = some o) (hd : ∀ d ∈ depsOf o, L d = true) {j : Nat} (hb : bef B i j = true) : L j = true := by
  rw [hok.B] at hb
  exact bef_listed (L := L) (fun i o ho hL d hd => h i o ho hL d hd) i o ho hd j hb

theorem mix_up {L : Nat → Bool} {fr : Fr} {i : Nat} (hi : i < ops.size) : ∀ (hok : DOk P n ops B q) (v : V) (hv : ∀ d, dstAt ops i = some d → v = fr d), mixF ops (upL L i) fr fr0 = (mixF ops L fr fr0).put (dstAt ops i) v := by
  intro hok v hv
  funext t
  cases hd : dstAt ops i with
  | none =>
    simp only [Fr.put]
    by_cases hh : ∃ j, j < ops.size ∧ dstAt ops j = some t ∧ L j = true
    · obtain ⟨j, hj, hdj, hb⟩ := hh
      rw [mix_yes hj hdj hb, mix_yes hj hdj (by simp [upL, hb])]
    · have hno : ∀ j, j < ops.size → dstAt ops j = some t → L j = false := fun j hj hd => by
        cases hb : L j with
        | false => rfl
        | true => exact absurd ⟨j, hj, hd, hb⟩ hh
      rw [mix_no hno, mix_no]
      intro j hj hdj
      have : j ≠ i := fun e => by subst e; rw [hd] at hdj; cases hdj
      simp [upL, this, hno j hj hdj]
  | some d =>
    simp only [Fr.put]
    by_cases ht : t = d
    · subst ht
      rw [if_pos rfl, mix_yes hi hd (by simp [upL]), hv t hd]
    · rw [if_neg ht]
      by_cases hh : ∃ j, j < ops.size ∧ dstAt ops j = some t ∧ L j = true
      · obtain ⟨j, hj, hdj, hb⟩ := hh
        rw [mix_yes hj hdj hb, mix_yes hj hdj (by simp [upL, hb])]
      · have hno : ∀ j, j < ops.size → dstAt ops j = some t → L j = false := fun j hj hd => by
          cases hb : L j with
          | false => rfl
          | true => exact absurd ⟨j, hj, hd, hb⟩ hh
        rw [mix_no hno, mix_no]
        intro j hj hdj
        have : j ≠ i := fun e => by subst e; rw [hd] at hdj; injection hdj with hdj; exact ht hdj.symm
        simp [upL, this, hno j hj hdj]

theorem sim_draw (hok : DOk P n ops B q) {Q : CPost} (hK : ∀ fr S, K fr S → Q .normal fr S) (hKp : ∀ v S, Kp v S → Q (.panic v) fr0 S) : ∀ (fuel : Nat) {l : Array Bool} {done rest : Seq} {g : G} {fr : Fr} {S : St} {a : Act} {w : World},
    l.size = ops.size → leftN ops (lst l) ≤ fuel → Down ops (lst l) → DInv P w0 n ops B q fr0 K Kp g0 (lst l) done rest g fr S a w → (rest = [] ∨ ∃ y r, rest = y :: r ∧ isEff y.2 = true) →
    wpAny P .any ops (QRel w0 n g0 Q) fuel l a w := by
  -- the end
  have fin : ∀ {l : Array Bool} {done rest : Seq} {g : G} {fr : Fr} {S : St} {a : Act} {w : World}, l.size = ops.size → DInv P w0 n ops B q fr0 K Kp g0 (lst l) done rest g fr S a w → (rest = [] ∨ ∃ y r, rest = y :: r ∧ isEff y.2 = true) →
      Region.ready .any ops l = [] → QRel w0 n g0 Q .normal a w := by
    intro l done rest g fr S a w hl h hb hr
    have hall' : ∀ m i, (runsOf q).idxOf i = m → i < ops.size → lst l i = true := by
      intro m
      induction m using Nat.strongRecOn with
      | _ m ih =>
        intro i him hi
        subst him
        cases hL : lst l i with
        | true => rfl
        | false =>
          exfalso
          have ho : ops[i]? = some ops[i] := Array.getElem?_eq_getElem hi
          have : i ∈ Region.ready .any ops l := (ready_iff hl).2 ⟨hi, hL, ops[i], ho, fun d hd => ih _ (hok.down i _ ho d hd) d rfl (hok.lt d (by have h1 := hok.down i _ ho d hd; have h2 := List.idxOf_lt_length_iff.2 (hok.all i hi); exact List.idxOf_lt_length_iff.1 (by omega)))⟩
          rw [hr] at this
          cases this
    have hall : ∀ i, i < ops.size → lst l i = true := fun i hi => hall' _ i rfl hi
    have hrest : rest = [] := by
      rcases hb with hb | ⟨y, r, rfl, hy⟩
      · exact hb
      · exfalso
        obtain ⟨i, x⟩ := y
        have hc := h.chk
        simp only [chkSeq, Bool.and_eq_true] at hc
        cases x with
        | chk => simp [isEff] at hy
        | run oc =>
          have hc1 := hc.1
          simp only [Bool.and_eq_true] at hc1
          obtain ⟨⟨⟨⟨⟨c1, c2⟩, c3⟩, c4⟩, c5⟩, c6⟩ := hc1
          split at c1 <;> (try (cases c1; done))
          rename_i o ho
          have hi : i < ops.size := (Array.getElem?_eq_some_iff.1 ho).1
          have := h.sub i (hall i hi)
          simp at c3
          exact c3 this
    subst hrest
    have hform := h.form
    simp only [List.map_nil, wItems] at hform
    refine ⟨h.defers, g, fr, S, h.le, h.W, ?_, hK _ _ hform⟩
    have : mixF ops (lst l) fr fr0 = fr := by
      funext t
      by_cases hh : ∃ j, j < ops.size ∧ dstAt ops j = some t
      · obtain ⟨j, hj, hd⟩ := hh
        exact mix_yes hj hd (hall j hj)
      · rw [mix_no (fun j hj hd => absurd ⟨j, hj, hd⟩ hh)]
        refine (h.unw t fun k hk hd => hh ⟨k, hok.lt k ?_, hd⟩).symm
        rw [h.seq, runsOf_append]; exact List.mem_append_left _ hk
    rw [← this]
    exact h.frame
  intro fuel
  induction fuel with
  | zero =>
    intro l done rest g fr S a w hl hleft hdown h hb
    have hr : Region.ready .any ops l = [] := by
      rw [List.eq_nil_iff_forall_not_mem]
      intro i hi
      obtain ⟨h1, h2, _⟩ := (ready_iff hl).1 hi
      have := left_up (L := lst l) h1 h2
      omega
    exact ⟨hr, fin hl h hb hr⟩
  | succ fuel ih =>
    intro l done rest g fr S a w hl hleft hdown h hb
    refine ⟨fin hl h hb, fun i hi => ?_⟩
    obtain ⟨hil, hLi, o, ho, hdeps⟩ := (ready_iff hl).1 hi
    have hbef : ∀ j, bef B i j = true → lst l j = true := fun j hj => hdown.bef hok ho hdeps hj
    have hdq : ∀ k ∈ runsOf done, k ∈ runsOf q := fun k hk => by rw [h.seq, runsOf_append]; exact List.mem_append_left _ hk
    have hl' : (l.setIfInBounds i true).size = ops.size := by simpa using hl
    have hset : lst (l.setIfInBounds i true) = upL (lst l) i := lst_set (by omega)
    have hleft' : leftN ops (lst (l.setIfInBounds i true)) ≤ fuel := by
      rw [hset]
      have := left_up (L := lst l) hil hLi
      omega
    have hdown' : Down ops (lst (l.setIfInBounds i true)) := by
      rw [hset]
      intro k o' ho' hk d hd
      unfold upL at hk ⊢
      split
      · rfl
      · split at hk
        · rename_i hki; subst hki
          rw [ho] at ho'; injection ho' with ho'; subst ho'
          exact hdeps d hd
        · exact hdown k o' ho' hk d hd
    -- what an operation looks at is in the mixed frame as in its own
    have hmix : ∀ {slots : List Nat}, chkReads B ops i slots false = true → AgreeOn slots (mixF ops (lst l) fr fr0) (mixF ops (bef B i) fr fr0) := by
      intro slots hr t ht
      by_cases hh : ∃ j, j < ops.size ∧ dstAt ops j = some t ∧ bef B i j = true
      · obtain ⟨j, hj, hd, hb'⟩ := hh
        rw [mix_yes hj hd (hbef j hb'), mix_yes hj hd hb']
      · have hno : ∀ j, j < ops.size → dstAt ops j = some t → bef B i j = false := fun j hj hd => by
          cases hb' : bef B i j with
          | false => rfl
          | true => exact absurd ⟨j, hj, hd, hb'⟩ hh
        rw [mix_no hno, mix_no]
        intro j hj hd
        cases hLj : lst l j with
        | false => rfl
        | true =>
          exfalso
          obtain ⟨_, hb'⟩ := reads_spec hr ht hj hd
          rcases hb' with hb' | ⟨_, hb'⟩
          · rw [hno j hj hd] at hb'; cases hb'
          · have hoj : ops[j]? = some ops[j] := Array.getElem?_eq_getElem hj
            have := hdown.bef hok hoj (hdown j _ hoj hLj) hb'
            rw [hLi] at this; cases this
    unfold wpOp
    simp only [ho]
    by_cases hid : i ∈ runsOf done
    · -- a quiet one that is told already
      have hevi : EvalTo P n ops B done fr0 i fr S := by
        rcases h.ev i hid hLi with he | he
        · exact he
        · exfalso
          have hp := he.1
          unfold pend at hp
          rcases hb with rfl | ⟨y, r, rfl, hy⟩
          · simp at hp
          · rw [List.takeWhile_cons, if_neg (by simp [hy])] at hp
            simp at hp
      obtain ⟨oc, fi, o', h1, h2, h3, h4, h5, h6⟩ := hevi
      rw [ho] at h1; injection h1 with h1; subst h1
      have hdst := chkOp_dst ho h3
      have h3' := h3
      simp only [chkOp, Bool.and_eq_true] at h3'
      obtain ⟨⟨d1, d2⟩, d3⟩ := h3'
      have hag := hmix h4
      have hg : AgreeOn (gSlots oc.g) (mixF ops (lst l) fr fr0) (mixF ops (bef B i) fr fr0) := fun t ht => hag t (by simp [opSlots, ht])
      have hs : AgreeOn fi.slots (mixF ops (lst l) fr fr0) (mixF ops (bef B i) fr fr0) := fun t ht => hag t (by simp [opSlots, h2, I.slots, ht])
      -- the invariant behind it
      have next : ∀ (v : V) (u : Value), (∀ d, oc.dst = some d → fr d = v) → RelV g v u → wpAny P .any ops (QRel w0 n g0 Q) fuel (l.setIfInBounds i true) (a.put o.dst u) w := by
        intro v u hv hu
        refine ih hl' hleft' hdown' (done := done) (rest := rest) (g := g) (fr := fr) (S := S) ⟨h.seq, h.chk, h.le, h.W, by rw [put_defers]; exact h.defers, h.form, fun k hk => ?_, fun x hx he => ?_, ?_, h.unw, h.ord, fun k hk hLk => ?_⟩ hb
        · rw [hset] at hk
          unfold upL at hk
          split at hk
          · rename_i e; rw [e]; exact hid
          · exact h.sub k hk
        · rw [hset]
          unfold upL
          split
          · rfl
          · exact h.eff x hx he
        · rw [hset, mix_up hil hok v (fun d hd => by rw [← hdst] at hd; exact (hv d hd).symm), ← hdst, chkDst_eq d1]
          have := chkDst_eq d1
          rw [← this]
          exact h.frame.put hu
        · rw [hset] at hLk
          unfold upL at hLk
          split at hLk
          · cases hLk
          · exact h.ev k hk hLk
      rcases h6 with ⟨a1, v, a2, a3⟩ | ⟨a1, a2⟩
      · have hw : Region.wanted o (yielded ops a.tmps) = true := wanted_rel h.frame d2 (by rw [wanted_congr hg]; exact a1)
        rw [if_pos hw]
        have d3' : chkFI P n o.op fi = true := by rw [h2] at d3; exact d3
        obtain ⟨u, hrun, hu⟩ := simFI h.W h.frame d3' (v := v) (by rw [aF_congr S hs]; exact a2)
        refine .inl ?_
        unfold Oper.wp
        rw [hrun]
        exact next v u a3 hu
      · have hw : Region.wanted o (yielded ops a.tmps) = false := wanted_rel h.frame d2 (by rw [wanted_congr hg]; exact a1)
        rw [if_neg (by rw [hw]; simp)]
        exact next (.tup []) undef a2 ⟨[], rfl, rfl⟩
    · -- the next one that acts
      have hiq := hok.all i hil
      rw [h.seq, runsOf_append] at hiq
      have hir : i ∈ runsOf rest := by
        rcases List.mem_append.1 hiq with hh | hh
        · exact absurd hh hid
        · exact hh
      rcases hb with rfl | ⟨y, r, rfl, hy⟩
      · simp [runsOf] at hir
      obtain ⟨e, x⟩ := y
      cases x with
      | chk => simp [isEff] at hy
      | run oc =>
        have hc := h.chk
        simp only [chkSeq, Bool.and_eq_true] at hc
        obtain ⟨⟨⟨⟨⟨⟨c1, c2⟩, c3⟩, c4⟩, c5⟩, c6⟩, hcrest⟩ := hc
        split at c1 <;> (try (cases c1; done))
        rename_i oe hoe
        simp only [Bool.and_eq_true] at c1
        obtain ⟨c11, c12⟩ := c1
        have hned : e ∉ runsOf done := by simpa using c3
        have hei : i = e := by
          rw [runsOf_run] at hir
          rcases List.mem_cons.1 hir with hh | hh
          · exact hh
          · exfalso
            obtain ⟨oc', hmem⟩ := mem_runsOf.1 hh
            -- it stands behind one that acts: that one comes ahead of it
            have key : ∀ (rest : Seq) (before : Seq), chkSeq P n B ops before rest = true → (i, Item.run oc') ∈ rest → ∀ y ∈ before, isEff y.2 = true → bef B i y.1 = true := by
              intro rest
              induction rest with
              | nil => intro before _ hm; cases hm
              | cons z zs ihz =>
                intro before hcz hm y hyb hye
                obtain ⟨zi, zx⟩ := z
                simp only [chkSeq, Bool.and_eq_true] at hcz
                obtain ⟨hcz1, hcz2⟩ := hcz
                rcases List.mem_cons.1 hm with hm | hm
                · injection hm with e1 e2
                  subst e1; subst e2
                  simp only [Bool.and_eq_true] at hcz1
                  have := List.all_eq_true.1 hcz1.1.2 y hyb
                  simpa [hye] using this
                · exact ihz _ hcz2 hm y (List.mem_append_left _ hyb) hye
            have := key r (done ++ [(e, .run oc)]) hcrest hmem (e, .run oc) (by simp) hy
            exact hned (h.sub e (hbef e this))
        subst hei
        rw [ho] at hoe; injection hoe with hoe; subst hoe
        have hdst := chkOp_dst ho c11
        have c11' := c11
        simp only [chkOp, Bool.and_eq_true] at c11'
        obtain ⟨⟨d1, d2⟩, d3⟩ := c11'
        obtain ⟨ei, hei⟩ : ∃ ei, oc.i = .e ei := by
          obtain ⟨d, g', ii⟩ := oc
          cases ii with
          | e ei => exact ⟨ei, rfl⟩
          | f fi => simp [isEff] at hy
        have hself : ∀ v : V, AgreeOn (opSlots oc) (mixF ops (bef B i) (fr.put (dstAt ops i) v) fr0) fr := fun v => agree_head hok hdq h.ord h.unw hil hned c12 v
        have hag0 : AgreeOn (opSlots oc) (mixF ops (bef B i) fr fr0) fr := by
          have hv := hself (match dstAt ops i with | some d => fr d | none => .poison)
          have hs : fr.put (dstAt ops i) (match dstAt ops i with | some d => fr d | none => .poison) = fr := by
            cases dstAt ops i with
            | none => rfl
            | some d => funext t; simp only [Fr.put]; split <;> simp_all
          rw [hs] at hv
          exact hv
        have hag : AgreeOn (opSlots oc) fr (mixF ops (lst l) fr fr0) := fun t ht => by
          rw [hmix c12 t ht, hag0 t ht]
        have hform := h.form
        simp only [List.map_cons, wItems, wItem] at hform
        -- the invariant behind it
        have next : ∀ (g' : G) (v : V) (S' : St) (u : Value) (w' : World), g.le g' → RelW w0 g' S' w' → RelV g' v u → wItems (RSim P w0) (r.map (·.2)) (fr.put (dstAt ops i) v) S' K Kp →
            (∀ k ∈ runsOf done, lst (l.setIfInBounds i true) k = false → EvalTo P n ops B (done ++ [(i, .run oc)]) fr0 k (fr.put (dstAt ops i) v) S' ∨ Waits n ops B fr0 r k (fr.put (dstAt ops i) v)) →
            wpAny P .any ops (QRel w0 n g0 Q) fuel (l.setIfInBounds i true) (a.put o.dst u) w' := by
          intro g' v S' u w' hle' hW' hu hk hev
          have hinv : DInv P w0 n ops B q fr0 K Kp g0 (lst (l.setIfInBounds i true)) (done ++ [(i, .run oc)]) r g' (fr.put (dstAt ops i) v) S' (a.put o.dst u) w' := by
            refine ⟨by rw [h.seq]; simp, hcrest, h.le.trans hle', hW', by rw [put_defers]; exact h.defers, hk, fun k hk => ?_, fun x hx he => ?_, ?_, fun t ht => ?_, fun k hk j hb' hj => ?_, fun k hk hLk => ?_⟩
            · rw [hset] at hk
              unfold upL at hk
              rw [runsOf_append, runsOf_run]
              split at hk
              · rename_i e'; rw [e']; exact List.mem_append_right _ (by simp)
              · exact List.mem_append_left _ (h.sub k hk)
            · rw [hset]
              unfold upL
              split
              · rfl
              · rename_i hne
                rcases List.mem_append.1 hx with hx | hx
                · exact h.eff x hx he
                · simp at hx; subst hx; exact absurd rfl hne
            · have hfr' : mixF ops (lst l) (fr.put (dstAt ops i) v) fr0 = mixF ops (lst l) fr fr0 := by
                funext t
                by_cases hh : ∃ j, j < ops.size ∧ dstAt ops j = some t ∧ lst l j = true
                · obtain ⟨j, hj, hd, hb'⟩ := hh
                  rw [mix_yes hj hd hb', mix_yes hj hd hb']
                  refine put_other hok hj hil (fun e' => ?_) hd v
                  subst e'; rw [hLi] at hb'; cases hb'
                · have hno : ∀ j, j < ops.size → dstAt ops j = some t → lst l j = false := fun j hj hd => by
                    cases hb' : lst l j with
                    | false => rfl
                    | true => exact absurd ⟨j, hj, hd, hb'⟩ hh
                  rw [mix_no hno, mix_no hno]
              rw [hset, mix_up hil hok v (fun d hd => by rw [hd]; simp [Fr.put]), hfr']
              rw [← hdst, ← chkDst_eq d1]
              exact (h.frame.mono hle').put hu
            · have h1 : dstAt ops i ≠ some t := ht i (by rw [runsOf_append, runsOf_run]; simp)
              have h2 : (fr.put (dstAt ops i) v) t = fr t := by
                cases hd : dstAt ops i with
                | none => rfl
                | some d =>
                  simp only [Fr.put]
                  rw [if_neg]
                  rintro rfl
                  exact h1 hd
              rw [h2]
              exact h.unw t fun k hk => ht k (by rw [runsOf_append]; exact List.mem_append_left _ hk)
            · rw [runsOf_append, runsOf_run] at hk ⊢
              rcases List.mem_append.1 hk with hk | hk
              · exact List.mem_append_left _ (h.ord k hk j hb' hj)
              · simp [runsOf] at hk
                subst hk
                exact List.mem_append_left _ (h.sub j (hbef j hb'))
            · rw [runsOf_append, runsOf_run] at hk
              rcases List.mem_append.1 hk with hk | hk
              · exact hev k hk hLk
              · simp [runsOf] at hk
                subst hk
                rw [hset] at hLk
                simp [upL] at hLk
          obtain ⟨done', rest', fr', hinv', hb'⟩ := hinv.peel hok r.length (Nat.le_refl _)
          exact ih hl' hleft' hdown' hinv' hb'
        have hLk0 : ∀ k, lst (l.setIfInBounds i true) k = false → lst l k = false := fun k hk => by
          rw [hset] at hk
          unfold upL at hk
          split at hk
          · cases hk
          · exact hk
        have hold : ∀ k ∈ runsOf done, lst l k = false → EvalTo P n ops B done fr0 k fr S := fun k hk hLk => by
          rcases h.ev k hk hLk with he | he
          · exact he
          · exfalso
            have hp := he.1
            unfold pend at hp
            rw [List.takeWhile_cons, if_neg (by simp [hy])] at hp
            simp at hp
        have hgag : AgreeOn (gSlots oc.g) fr (mixF ops (lst l) fr fr0) := fun t ht => hag t (by simp [opSlots, ht])
        have hsag : AgreeOn ei.slots fr (mixF ops (lst l) fr fr0) := fun t ht => hag t (by simp [opSlots, hei, I.slots, ht])
        split at hform <;> (try (cases hform; done))
        · rename_i hwt
          have hw : Region.wanted o (yielded ops a.tmps) = true := wanted_rel h.frame d2 (by rw [← wanted_congr hgag]; exact hwt)
          rw [if_pos hw]
          refine .inl ?_
          rw [hei] at hform
          have d3' : chkEI P n o.op ei = true := by rw [hei] at d3; exact d3
          refine simEI h.W h.frame d3' (wE_congr S hsag hform) (fun g' v S' u w' hle' hW' hu hk => ?_) (fun g' v S' u w' hle' hW' hu hk => ?_)
          · rw [hdst] at hk
            refine next g' v S' u w' hle' hW' hu hk (fun k hkd hLk => ?_)
            have hLk' := hLk0 k hLk
            have hev0 := EvalTo.put (x := (i, .run oc)) hok hdq h.ord hkd hil hned v (hold k hkd hLk')
            obtain ⟨ock, fik, ok, e1, e2, e3, e4, e5, e6⟩ := hev0
            rcases e6 with ⟨a1, v1, a2, a3⟩ | ⟨a1, a2⟩
            · cases hrd : fik.reader with
              | false => exact .inl ⟨ock, fik, ok, e1, e2, e3, e4, e5, .inl ⟨a1, v1, by rw [aF_store hrd _ S' S]; exact a2, a3⟩⟩
              | true =>
                obtain ⟨oc', fi', b1, b2, b3⟩ := e5 hrd
                have b1' : (k, Item.run oc') ∈ done := by
                  rcases List.mem_append.1 b1 with b1 | b1
                  · exact b1
                  · simp at b1
                    obtain ⟨rfl, _⟩ := b1
                    exact absurd hkd hned
                have hbh : chkBehind B done i r = true := by
                  rw [hei] at c6
                  exact c6
                have hx := List.all_eq_true.1 hbh _ b1'
                obtain ⟨od, og, oi⟩ := oc'
                simp only at b2
                subst b2
                simp only [b3, Bool.not_true, Bool.false_or, Bool.or_eq_true] at hx
                have e3' := e3
                simp only [chkOp, Bool.and_eq_true] at e3'
                rcases hx with hx | hx
                · exfalso
                  have := hbef k hx
                  rw [hLk'] at this; cases this
                · exact .inr ⟨hx, ok, ock.g, e1, e3'.1.2, a1⟩
            · exact .inl ⟨ock, fik, ok, e1, e2, e3, e4, e5, .inr ⟨a1, a2⟩⟩
          · exact ⟨h.defers, g', fr0, S', v, u, rfl, h.le.trans hle', hW', hu, hKp _ _ hk⟩
        · rename_i hwt
          have hw : Region.wanted o (yielded ops a.tmps) = false := wanted_rel h.frame d2 (by rw [← wanted_congr hgag]; exact hwt)
          rw [if_neg (by rw [hw]; simp)]
          rw [hdst] at hform
          refine next g (.tup []) S undef w (G.le.refl g) h.W ⟨[], rfl, rfl⟩ hform (fun k hkd hLk => ?_)
          exact .inl (EvalTo.put hok hdq h.ord hkd hil hned _ (hold k hkd (hLk0 k hLk)))
end
end Go.VM
