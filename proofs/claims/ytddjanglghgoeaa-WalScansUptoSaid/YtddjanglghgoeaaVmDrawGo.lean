/-
  The value machine: a region that draws its order: step by step, whichever comes up.
-/
import Derived.Test.YtddjanglghgoeaaVmDrawSim
set_option linter.unusedVariables false
set_option linter.unusedSimpArgs false
namespace Go.VM
open Go Go.RowKit

section
variable {P : Program} {w0 : World} {n : Nat} {ops : Array Oper} {B : List Nat} {q : Seq} {fr0 : Fr} {K : Fr → St → Prop} {Kp : V → St → Prop} {g0 : G}

theorem pend_cons_run {i k : Nat} {oc : OpC} {rest : Seq} (h : isEff (.run oc) = false) (hp : pend ((i, .run oc) :: rest) k = true) : pend rest k = true := by
  unfold pend at hp ⊢
  rw [List.takeWhile_cons, if_pos (by simp [h])] at hp
  simpa [isRun] using hp
theorem pend_cons_chk {i k d : Nat} {g : Option (Nat × Bool)} {fi : FI} {rest : Seq} (hne : k ≠ i) (hp : pend ((i, .chk d g fi) :: rest) k = true) : pend rest k = true := by
  unfold pend at hp ⊢
  rw [List.takeWhile_cons, if_pos (by simp [isEff])] at hp
  simp only [List.any_cons, Bool.or_eq_true, Bool.and_eq_true, beq_iff_eq] at hp
  rcases hp with hp | hp
  · exact absurd hp.1.symm hne
  · exact hp

theorem chkOp_dst {i : Nat} {o : Oper} {oc : OpC} (ho : ops[i]? = some o) (h : chkOp P n ops o oc = true) : oc.dst = dstAt ops i := by
  simp only [chkOp, Bool.and_eq_true] at h
  rw [← chkDst_eq h.1.1]
  simp [dstAt, ho]

/-- One quiet item at the head. -/
theorem DInv.step {L : Nat → Bool} {done rest : Seq} {g : G} {fr : Fr} {S : St} {a : Act} {w : World} {i : Nat} {x : Item} (hok : DOk P n ops B q) (h : DInv P w0 n ops B q fr0 K Kp g0 L done ((i, x) :: rest) g fr S a w) (hx : isEff x = false) :
    ∃ fr', DInv P w0 n ops B q fr0 K Kp g0 L (done ++ [(i, x)]) rest g fr' S a w := by
  have hdq : ∀ k ∈ runsOf done, k ∈ runsOf q := fun k hk => by rw [h.seq, runsOf_append]; exact List.mem_append_left _ hk
  have hc := h.chk
  simp only [chkSeq, Bool.and_eq_true] at hc
  obtain ⟨hc1, hc2⟩ := hc
  cases x with
  | run oc =>
    simp only [Bool.and_eq_true] at hc1
    obtain ⟨⟨⟨⟨⟨c1, c2⟩, c3⟩, c4⟩, c5⟩, c6⟩ := hc1
    split at c1 <;> (try (cases c1; done))
    rename_i o ho
    simp only [Bool.and_eq_true] at c1
    obtain ⟨c11, c12⟩ := c1
    have hdst := chkOp_dst ho c11
    have hi : i < ops.size := (Array.getElem?_eq_some_iff.1 ho).1
    have hni : i ∉ runsOf done := by simpa using c3
    obtain ⟨fi, hfi⟩ : ∃ fi, oc.i = .f fi := by
      obtain ⟨d, g', ii⟩ := oc
      cases ii with
      | f fi => exact ⟨fi, rfl⟩
      | e ei => simp [isEff] at hx
    have hLi : L i = false := by
      cases hL : L i with
      | false => rfl
      | true => exact absurd (h.sub i hL) hni
    have hform := h.form
    simp only [List.map_cons, wItems, wItem] at hform
    have hreads : AgreeOn (gSlots oc.g) (mixF ops (bef B i) fr fr0) fr ∧ AgreeOn (opSlots oc) (mixF ops (bef B i) fr fr0) fr := by
      have := fun (v : V) => agree_head hok hdq h.ord h.unw hi hni c12 v
      have hv := this (match dstAt ops i with | some d => fr d | none => .poison)
      have hself : fr.put (dstAt ops i) (match dstAt ops i with | some d => fr d | none => .poison) = fr := by
        cases dstAt ops i with
        | none => rfl
        | some d => funext t; simp only [Fr.put]; split <;> simp_all
      rw [hself] at hv
      exact ⟨fun t ht => hv t (by simp [opSlots, ht]), hv⟩
    have main : ∀ v, (wItems (RSim P w0) (rest.map (·.2)) (fr.put (dstAt ops i) v) S K Kp) →
        ((wanted fr oc.g = some true ∧ aF fi fr S = some v) ∨ (wanted fr oc.g = some false ∧ v = .tup [])) → DInv P w0 n ops B q fr0 K Kp g0 L (done ++ [(i, .run oc)]) rest g (fr.put (dstAt ops i) v) S a w := by
      intro v hk hv
      have hagree := agree_head hok hdq h.ord h.unw hi hni c12 v
      have hg : AgreeOn (gSlots oc.g) (mixF ops (bef B i) (fr.put (dstAt ops i) v) fr0) fr := fun t ht => hagree t (by simp [opSlots, ht])
      have hs : AgreeOn fi.slots (mixF ops (bef B i) (fr.put (dstAt ops i) v) fr0) fr := fun t ht => hagree t (by simp [opSlots, hfi, I.slots, ht])
      have hself : ∀ d, oc.dst = some d → (fr.put (dstAt ops i) v) d = v := fun d hd => by
        rw [← hdst, hd]; simp [Fr.put]
      refine ⟨by rw [h.seq]; simp, hc2, h.le, h.W, h.defers, hk, fun k hk => ?_, fun y hy hye => ?_, ?_, fun t ht => ?_, fun k hk j hb hj => ?_, fun k hk hLk => ?_⟩
      · rw [runsOf_append]; exact List.mem_append_left _ (h.sub k hk)
      · rcases List.mem_append.1 hy with hy | hy
        · exact h.eff y hy hye
        · simp at hy; subst hy; rw [hx] at hye; cases hye
      · have : mixF ops L (fr.put (dstAt ops i) v) fr0 = mixF ops L fr fr0 := by
          funext t
          by_cases hh : ∃ j, j < ops.size ∧ dstAt ops j = some t ∧ L j = true
          · obtain ⟨j, hj, hd, hb⟩ := hh
            rw [mix_yes hj hd hb, mix_yes hj hd hb]
            refine put_other hok hj hi (fun e => ?_) hd v
            subst e; rw [hLi] at hb; cases hb
          · have hno : ∀ j, j < ops.size → dstAt ops j = some t → L j = false := fun j hj hd => by
              cases hb : L j with
              | false => rfl
              | true => exact absurd ⟨j, hj, hd, hb⟩ hh
            rw [mix_no hno, mix_no hno]
        rw [this]
        exact h.frame
      · have h1 : dstAt ops i ≠ some t := ht i (by rw [runsOf_append, runsOf_run]; simp)
        have h2 : (fr.put (dstAt ops i) v) t = fr t := by
          cases hd : dstAt ops i with
          | none => rfl
          | some d =>
            simp only [Fr.put]
            rw [if_neg]
            rintro rfl
            exact h1 hd
        rw [h2]
        exact h.unw t fun k hk => ht k (by rw [runsOf_append]; exact List.mem_append_left _ hk)
      · rw [runsOf_append, runsOf_run] at hk ⊢
        rcases List.mem_append.1 hk with hk | hk
        · exact List.mem_append_left _ (h.ord k hk j hb hj)
        · simp [runsOf] at hk
          subst hk
          have hjq := hok.all j hj
          rw [h.seq, runsOf_append, runsOf_run] at hjq
          rcases List.mem_append.1 hjq with hjq | hjq
          · exact List.mem_append_left _ hjq
          · rcases List.mem_cons.1 hjq with rfl | hjq
            · exact List.mem_append_right _ (by simp)
            · exfalso
              obtain ⟨oc', hmem⟩ := mem_runsOf.1 hjq
              have := List.all_eq_true.1 c2 _ hmem
              simp [isRun, hb] at this
      · rw [runsOf_append, runsOf_run] at hk
        rcases List.mem_append.1 hk with hk | hk
        · rcases h.ev k hk hLk with he | he
          · exact .inl (EvalTo.put hok hdq h.ord hk hi hni v he)
          · exact .inr (Waits.put hok hdq h.ord hk hi hni v (pend_cons_run hx he.1) he)
        · simp [runsOf] at hk
          subst hk
          refine .inl ⟨oc, fi, o, ho, hfi, c11, c12, fun hr => ⟨oc, fi, by simp, hfi, hr⟩, ?_⟩
          rcases hv with ⟨hv1, hv2⟩ | ⟨hv1, hv2⟩
          · exact .inl ⟨by rw [wanted_congr hg]; exact hv1, v, by rw [aF_congr S hs]; exact hv2, hself⟩
          · exact .inr ⟨by rw [wanted_congr hg]; exact hv1, fun d hd => by rw [hself d hd, hv2]⟩
    split at hform <;> (try (cases hform; done))
    · rename_i hw
      rw [hfi] at hform
      simp only at hform
      split at hform <;> (try (cases hform; done))
      rename_i v hv
      rw [hdst] at hform
      exact ⟨_, main v hform (.inl ⟨hw, hv⟩)⟩
    · rename_i hw
      rw [hdst] at hform
      exact ⟨_, main (.tup []) hform (.inr ⟨hw, rfl⟩)⟩
  | chk d gd fi =>
    simp only [Bool.and_eq_true] at hc1
    obtain ⟨c1, c2⟩ := hc1
    split at c2 <;> (try (cases c2; done))
    rename_i o ho
    simp only [Bool.and_eq_true] at c2
    obtain ⟨c3, c4⟩ := c2
    obtain ⟨y, hyd, hy⟩ := List.any_eq_true.1 c1
    simp only [Bool.and_eq_true, beq_iff_eq] at hy
    obtain ⟨hy1, hy2⟩ := hy
    obtain ⟨yi, yx⟩ := y
    simp only at hy1 hy2
    subst hy1
    have hform := h.form
    simp only [List.map_cons, wItems, wItem] at hform
    have hreads : AgreeOn (opSlots ⟨some d, gd, .f fi⟩) (mixF ops (bef B yi) fr fr0) fr := by
      intro t ht
      by_cases hh : ∃ j, j < ops.size ∧ dstAt ops j = some t
      · obtain ⟨j, hj, hd⟩ := hh
        obtain ⟨_, hb⟩ := reads_spec c4 ht hj hd
        rcases hb with hb | ⟨hb, _⟩
        · exact mix_yes hj hd hb
        · cases hb
      · rw [mix_no (fun j hj hd => absurd ⟨j, hj, hd⟩ hh)]
        exact (h.unw t fun k hk hd => hh ⟨k, hok.lt k (hdq k hk), hd⟩).symm
    have hg : AgreeOn (gSlots gd) (mixF ops (bef B yi) fr fr0) fr := fun t ht => hreads t (by simp [opSlots, ht])
    have hs : AgreeOn fi.slots (mixF ops (bef B yi) fr fr0) fr := fun t ht => hreads t (by simp [opSlots, I.slots, ht])
    have hruns : runsOf (done ++ [(yi, .chk d gd fi)]) = runsOf done := by rw [runsOf_append, runsOf_chk]; simp [runsOf]
    have c3' := c3
    simp only [chkOp, Bool.and_eq_true] at c3'
    have main : ∀ (hk : wItems (RSim P w0) (rest.map (·.2)) fr S K Kp) (hv : (wanted fr gd = some true ∧ aF fi fr S = some (fr d)) ∨ wanted fr gd = some false), DInv P w0 n ops B q fr0 K Kp g0 L (done ++ [(yi, .chk d gd fi)]) rest g fr S a w := by
      intro hk hv
      refine ⟨by rw [h.seq]; simp, hc2, h.le, h.W, h.defers, hk, fun k hk => ?_, fun y hy hye => ?_, h.frame, fun t ht => ?_, fun k hk j hb hj => ?_, fun k hk hLk => ?_⟩
      · rw [hruns]; exact h.sub k hk
      · rcases List.mem_append.1 hy with hy | hy
        · exact h.eff y hy hye
        · simp at hy; subst hy; rw [hx] at hye; cases hye
      · rw [hruns] at ht; exact h.unw t ht
      · rw [hruns] at hk ⊢; exact h.ord k hk j hb hj
      · rw [hruns] at hk
        have lift : ∀ k', EvalTo P n ops B done fr0 k' fr S → EvalTo P n ops B (done ++ [(yi, .chk d gd fi)]) fr0 k' fr S := fun k' ⟨oc, fi', o', h1, h2, h3, h4, h5, h6⟩ =>
          ⟨oc, fi', o', h1, h2, h3, h4, fun hr => by obtain ⟨a1, a2, a3, a4⟩ := h5 hr; exact ⟨a1, a2, List.mem_append_left _ a3, a4⟩, h6⟩
        rcases h.ev k hk hLk with he | he
        · exact .inl (lift k he)
        · by_cases hke : k = yi
          · subst hke
            rcases hv with ⟨hv1, hv2⟩ | hv1
            · refine .inl ⟨⟨some d, gd, .f fi⟩, fi, o, ho, rfl, c3, ?_, fun hr => ?_, .inl ⟨by rw [wanted_congr hg]; exact hv1, fr d, by rw [aF_congr S hs]; exact hv2, fun d' hd' => by injection hd' with hd'; rw [hd']⟩⟩
              · unfold chkReads at c4 ⊢
                rw [List.all_eq_true] at c4 ⊢
                intro t ht
                have := c4 t ht
                rw [List.all_eq_true] at this ⊢
                intro j hj
                have := this j hj
                split
                · rename_i hd
                  rw [if_pos hd] at this
                  simp only [Bool.and_eq_true, Bool.not_true, Bool.false_and, Bool.or_false] at this
                  simp [this.1, this.2]
                · rfl
              · cases yx with
                | chk => cases hy2
                | run ocy =>
                  obtain ⟨d1, g1, i1⟩ := ocy
                  cases i1 with
                  | e => cases hy2
                  | f fi' => exact ⟨_, fi', List.mem_append_left _ hyd, rfl, hy2⟩
            · exfalso
              obtain ⟨_, o', og, h1, h2, h3⟩ := he
              rw [ho] at h1; injection h1 with h1; subst h1
              have := chkG_one h2 c3'.1.2
              subst this
              rw [wanted_congr hg, hv1] at h3
              cases h3
          · exact .inr ⟨pend_cons_chk hke he.1, he.2⟩
    split at hform <;> (try (cases hform; done))
    · rename_i hw
      exact ⟨fr, main hform.2 (.inl ⟨hw, hform.1⟩)⟩
    · rename_i hw
      exact ⟨fr, main hform (.inr hw)⟩

/-- All quiet items at the head. -/
theorem DInv.peel (hok : DOk P n ops B q) : ∀ (m : Nat) {L : Nat → Bool} {done rest : Seq} {g : G} {fr : Fr} {S : St} {a : Act} {w : World}, rest.length ≤ m → DInv P w0 n ops B q fr0 K Kp g0 L done rest g fr S a w →
    ∃ done' rest' fr', DInv P w0 n ops B q fr0 K Kp g0 L done' rest' g fr' S a w ∧ (rest' = [] ∨ ∃ y r, rest' = y :: r ∧ isEff y.2 = true)
  | m, L, done, [], g, fr, S, a, w, _, h => ⟨done, [], fr, h, .inl rfl⟩
  | 0, L, done, _ :: _, g, fr, S, a, w, hl, h => by simp at hl
  | m + 1, L, done, (i, x) :: rest, g, fr, S, a, w, hl, h => by
    cases hx : isEff x with
    | true => exact ⟨done, (i, x) :: rest, fr, h, .inr ⟨(i, x), rest, rfl, hx⟩⟩
    | false =>
      obtain ⟨fr', h'⟩ := h.step hok hx
      exact DInv.peel hok m (by simpa using hl) h'
end
end Go.VM
