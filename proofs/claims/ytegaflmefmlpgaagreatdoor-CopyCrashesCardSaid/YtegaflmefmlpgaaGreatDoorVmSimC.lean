/-
  The value machine: operations in their place: guards, calls, regions in the order of the text.
-/
import Derived.Test.YtegaflmefmlpgaaGreatDoorVmSimE
import Derived.Test.YtegaflmefmlpgaaGreatDoorVmDef
set_option linter.unusedVariables false
set_option linter.unusedSimpArgs false
namespace Go.VM
open Go Go.RowKit

def chkI (P : Program) (n : Nat) (o : Op) : I → Bool
  | .f i => chkFI P n o i
  | .e i => chkEI P n o i
def chkG (n : Nat) (ops : Array Oper) : Option (Nat × Bool) → Option (Nat × Bool) → Bool
  | none, none => true
  | some (j, want), some (t, want') => decide (want = want') && (match (ops[j]?).bind (·.dst) with | some t' => decide (t = t') && decide (t < n) | none => false)
  | _, _ => false
def chkDst (n : Nat) : Option Nat → Option Nat → Bool
  | none, none => true
  | some d, some d' => decide (d = d') && decide (d < n)
  | _, _ => false
def chkOp (P : Program) (n : Nat) (ops : Array Oper) (o : Oper) (oc : OpC) : Bool :=
  chkDst n o.dst oc.dst && chkG n ops o.guard oc.g && chkI P n o.op oc.i
def chkPlain (P : Program) (n : Nat) (ops : Array Oper) : List Oper → List Item → Bool
  | [], [] => true
  | o :: os, .run oc :: is => chkOp P n ops o oc && chkPlain P n ops os is
  | _, _ => false

section
variable {P : Program} {w0 w : World} {g : G} {S : St} {n : Nat} {fr : Fr} {a : Act} {ops : Array Oper}

theorem chkDst_eq {d d' : Option Nat} (h : chkDst n d d' = true) : d = d' := by
  unfold chkDst at h
  split at h
  · rfl
  · simp only [Bool.and_eq_true, decide_eq_true_eq] at h; rw [h.1]
  · cases h

theorem rel_isBool {v : V} {b : Bool} (h : RelV g v (.bool b)) : v = .bool b ∨ v = .poison := by
  cases v with
  | bool c => left; injection (h : Value.bool b = .bool c) with h; rw [h]
  | poison => exact .inr rfl
  | ptr p => cases p with
    | none => cases (h : Value.bool b = .pointer none)
    | some p => obtain ⟨_, _⟩ := p; cases h.2
  | eptr => obtain ⟨_, _, _, h, _⟩ := h; cases h
  | sl => obtain ⟨_, h⟩ := h; rcases h with ⟨_, _, _, h⟩ | ⟨_, _, _, _, _, h, _⟩ | ⟨_, _, _, _, h⟩ <;> cases h
  | msl => obtain ⟨_, _, h, _⟩ := h; cases h
  | map r => cases r with
    | none => cases (h : Value.bool b = .map none)
    | some r => cases h.2
  | iter => cases h.2
  | func => obtain ⟨_, _, h, _⟩ := h; cases h
  | iface => obtain ⟨_, h, _⟩ := h; cases h
  | agg => obtain ⟨_, h, _⟩ := h; cases h
  | tup => obtain ⟨_, h, _⟩ := h; cases h
  | int k m => cases (h : Value.bool b = .int k m)
  | str s => cases (h : Value.bool b = .string s)
  | nilFunc => cases (h : Value.bool b = .nilFunc)
  | nilIface => cases (h : Value.bool b = .nilIface)
def boolOf : Value → Option Bool
  | .bool b => some b
  | _ => none
theorem notBool {u : Value} (h : ∀ b, u ≠ .bool b) : boolOf u = none := by
  cases u <;> first | exact absurd rfl (h _) | rfl

/-- The guard, on both sides. -/
theorem wanted_rel (hF : RelF g n fr a.tmps) {o : Oper} {og : Option (Nat × Bool)} (h : chkG n ops o.guard og = true) {b : Bool} (hw : wanted fr og = some b) : Region.wanted o (yielded ops a.tmps) = b := by
  unfold chkG at h
  unfold Region.wanted
  split at h
  · rename_i h1
    rw [h1]
    simp only [wanted] at hw
    injection hw with hw
  · rename_i j want t want' h1
    rw [h1]
    simp only [Bool.and_eq_true, decide_eq_true_eq] at h
    obtain ⟨rfl, h⟩ := h
    split at h <;> (try (cases h; done))
    rename_i t' ht'
    simp only [Bool.and_eq_true, decide_eq_true_eq] at h
    obtain ⟨rfl, ht⟩ := h
    have hrel := hF.2 t ht
    have hsz : t < a.tmps.size := by rw [hF.1]; exact ht
    have hget : a.tmps[t]? = some (a.tmps.getD t undef) := by
      rw [Array.getElem?_eq_getElem hsz]
      simp [Array.getD, hsz]
    have hy : yielded ops a.tmps j = boolOf (a.tmps.getD t undef) := by
      unfold yielded
      rw [ht']
      simp only [Option.bind_some, hget]
      generalize a.tmps.getD t undef = u
      cases u <;> rfl
    dsimp only
    rw [hy]
    simp only [wanted] at hw
    split at hw
    · rename_i b' hb'
      rw [hb'] at hrel
      have e := rel_bool hrel
      simp only [Option.some.injEq] at hw
      rw [e, ← hw]
      rfl
    · cases hw
    · rename_i h1 h2
      injection hw with hw
      subst hw
      have hnb : ∀ b, a.tmps.getD t undef ≠ .bool b := fun b hb => by
        rw [hb] at hrel
        rcases rel_isBool hrel with hh | hh
        · exact h1 _ hh
        · exact h2 hh
      rw [notBool hnb]
      rfl
  · cases h

/-- A call ends: the operation's post. -/
theorem call_upon {o : Oper} {next : Act → World → Prop} {Q : Exit → Act → World → Prop} {K Kp : V → St → Prop} {f : FuncId} {args : List V} {us : List Value} (hW : RelW w0 g S w) (hr : RelL g args us)
    (h : RSim P w0 f args S (fun | .ret v, S' => K v S' | .pan v, S' => Kp v S'))
    (hnext : ∀ g' v S' u w', g.le g' → RelW w0 g' S' w' → RelV g' v u → K v S' → next (a.put o.dst u) w')
    (hpan : ∀ g' v S' u w', g.le g' → RelW w0 g' S' w' → RelV g' v u → Kp v S' → Q (.panic [{ v := u, recovered := false }]) a w') :
    o.upon P a next Q (.ok (.enter f us.toArray) w) := by
  show Calls P f us.toArray w _
  refine (h.2 g w us hW hr).mono ?_
  rintro e w' ⟨g', S', e', hl, hw', hre, hq⟩
  cases e' with
  | ret v =>
    cases e with
    | returned u => exact hnext g' v S' u w' hl hw' hre hq
    | panicked c => exact hre.elim
    | outgrown => exact hre.elim
  | pan v =>
    cases e with
    | returned u => exact hre.elim
    | panicked c =>
      obtain ⟨u, rfl, hu⟩ := hre
      exact hpan g' v S' u w' hl hw' hu hq
    | outgrown => exact hre.elim

theorem callFunc_run {f : FuncId} (h : Enters P f) (args : Array Value) (w : World) : (callFunc f args).run P w = .ok (.enter f args) w := by
  obtain ⟨fn, h1, h2, h3⟩ := h
  simp only [callFunc, Sem.run_bind, run_program, Result.andThen_ok, h1, h3, Bool.false_eq_true, if_false, h2, Sem.run_pure]

theorem simEI (hW : RelW w0 g S w) (hF : RelF g n fr a.tmps) {o : Oper} {i : EI} (hc : chkEI P n o.op i = true) {K Kp : V → St → Prop} (h : wE (RSim P w0) i fr S K Kp) {next : Act → World → Prop} {Q : Exit → Act → World → Prop}
    (hnext : ∀ g' v S' u w', g.le g' → RelW w0 g' S' w' → RelV g' v u → K v S' → next (a.put o.dst u) w')
    (hpan : ∀ g' v S' u w', g.le g' → RelW w0 g' S' w' → RelV g' v u → Kp v S' → Q (.panic [{ v := u, recovered := false }]) a w') : o.wp P a w next Q := by
  cases hq : i.quiet with
  | true =>
    obtain ⟨u, w', g', v, S', hrun, hl, hw', hv, hk⟩ := simQuietE _ hW hF hc h hq
    unfold Oper.wp
    rcases hrun with hrun | ⟨hrun, rfl⟩
    · rw [hrun]; exact hnext g' v S' u w' hl hw' hv hk
    · rw [hrun]; exact hnext g' v S' undef w' hl hw' hv hk
  | false =>
    cases i <;> simp only [EI.quiet] at hq <;> (try (cases hq; done))
    · rename_i f' args'
      simp only [chkEI] at hc
      split at hc
      · rename_i f xs ts ho
        simp only [Bool.and_eq_true, decide_eq_true_eq] at hc
        obtain ⟨rfl, h1⟩ := hc
        simp only [wE] at h
        have hrun : (execOp a.eval o).run P w = .ok (.enter f (xs.toList.map a.eval).toArray) w := by
          have hm : xs.map a.eval = (xs.toList.map a.eval).toArray := by rw [← Array.toList_map, Array.toArray_toList]
          simp only [execOp, ho, resolve, Act.eval, Deferred.ofValue, Sem.run_bind, Sem.run_pure, Result.andThen_ok, invoke]
          rw [Array.empty_append, Array.append_empty, callFunc_run h.1]
          congr 2
        unfold Oper.wp
        rw [hrun]
        exact call_upon hW (chkAs_rel hF h1) h hnext hpan
      · cases hc
    · rename_i x' args'
      simp only [chkEI] at hc
      split at hc
      · rename_i x xs ts ho
        simp only [Bool.and_eq_true] at hc
        obtain ⟨h0, h1⟩ := hc
        simp only [wE] at h
        split at h <;> (try (cases h; done))
        rename_i f pre cap he
        have k := chkA_rel hF h0
        rw [he] at k
        obtain ⟨us, ws, e1, r1, r2⟩ := k
        have r3 := (r1.append (chkAs_rel hF h1)).append r2
        have hrun : (execOp a.eval o).run P w = .ok (.enter f (us ++ xs.toList.map a.eval ++ ws).toArray) w := by
          have hm : xs.map a.eval = (xs.toList.map a.eval).toArray := by rw [← Array.toList_map, Array.toArray_toList]
          simp only [execOp, ho, resolve, e1, Deferred.ofValue, Sem.run_bind, Sem.run_pure, Result.andThen_ok, invoke]
          rw [callFunc_run h.1, hm]
          simp
        unfold Oper.wp
        rw [hrun]
        exact call_upon hW r3 h hnext hpan
      · cases hc
    · rename_i x'
      simp only [chkEI] at hc
      split at hc
      · rename_i xs ts ho
        split at hc <;> (try (cases hc; done))
        rename_i x hxs
        obtain rfl : xs = #[x] := Array.toList_inj.1 hxs
        have k := chkA_rel hF hc
        simp only [wE] at h
        split at h <;> (try (cases h; done))
        rename_i t v he
        rw [he] at k
        have k' := k
        obtain ⟨u, e1, _⟩ := k
        have hrun : (execOp a.eval o).run P w = .halt (.panic (a.eval x)) w := by
          simp [execOp, ho, resolve, invoke, builtin, e1, Instr.panic]
        unfold Oper.wp
        rw [hrun]
        exact hpan g _ S _ w (G.le.refl g) hW k' h
      · cases hc

def wI (cl : Cl) (i : I) (fr : Fr) (S : St) (K Kp : V → St → Prop) : Prop :=
  match i with
  | .f i => match aF i fr S with
    | some v => K v S
    | none => False
  | .e i => wE cl i fr S K Kp

/-- One operation of a region, its guard met. -/
theorem simI (hW : RelW w0 g S w) (hF : RelF g n fr a.tmps) {o : Oper} {i : I} (hc : chkI P n o.op i = true) {K : V → St → Prop} {Kp : V → St → Prop}
    (h : wI (RSim P w0) i fr S K Kp) {next : Act → World → Prop} {Q : Exit → Act → World → Prop}
    (hnext : ∀ g' v S' u w', g.le g' → RelW w0 g' S' w' → RelV g' v u → K v S' → next (a.put o.dst u) w')
    (hpan : ∀ g' v S' u w', g.le g' → RelW w0 g' S' w' → RelV g' v u → Kp v S' → Q (.panic [{ v := u, recovered := false }]) a w') : o.wp P a w next Q := by
  cases i with
  | e i => exact simEI hW hF hc h hnext hpan
  | f i =>
    simp only [wI] at h
    split at h <;> (try (cases h; done))
    rename_i v hv
    obtain ⟨u, hrun, hu⟩ := simFI hW hF hc hv
    unfold Oper.wp
    rw [hrun]
    exact hnext g v S u w (G.le.refl g) hW hu h

/-- Where a code has come to, on both sides. -/
def QRel (w0 : World) (n : Nat) (g : G) (Q : CPost) : Exit → Act → World → Prop
  | .normal, a, w => a.defers = [] ∧ ∃ g' fr S, g.le g' ∧ RelW w0 g' S w ∧ RelF g' n fr a.tmps ∧ Q .normal fr S
  | .exit id, a, w => a.defers = [] ∧ ∃ g' fr S, g.le g' ∧ RelW w0 g' S w ∧ RelF g' n fr a.tmps ∧ Q (.exit id) fr S
  | .ret, a, w => a.defers = [] ∧ ∃ g' fr S, g.le g' ∧ RelW w0 g' S w ∧ RelF g' n fr a.tmps ∧ Q .ret fr S
  | .panic c, a, w => a.defers = [] ∧ ∃ g' fr S v u, c = [{ v := u, recovered := false }] ∧ g.le g' ∧ RelW w0 g' S w ∧ RelV g' v u ∧ Q (.panic v) fr S
  | _, _, _ => False

theorem put_defers (a : Act) (d : Option Tmp) (u : Value) : (a.put d u).defers = a.defers := by cases d <;> rfl

theorem simPlain {g0 : G} {fr0 : Fr} (hl0 : g0.le g) {Q : CPost} : ∀ {os : List Oper} {is : List Item}, chkPlain P n ops os is = true → RelW w0 g S w → RelF g n fr a.tmps → a.defers = [] →
    wItems (RSim P w0) is fr S (Q .normal) (fun v S' => Q (.panic v) fr0 S') → wpList P ops (QRel w0 n g0 Q) os a w := by
  intro os
  induction os generalizing g S fr a w with
  | nil =>
    intro is hc hW hF hd h
    cases is with
    | nil => exact ⟨hd, g, fr, S, hl0, hW, hF, h⟩
    | cons => cases hc
  | cons o os ih =>
    intro is hc hW hF hd h
    cases is with
    | nil => cases hc
    | cons x is =>
      cases x with
      | chk => cases hc
      | run oc =>
        simp only [chkPlain, chkOp, Bool.and_eq_true] at hc
        obtain ⟨⟨⟨h1, h2⟩, h3⟩, h4⟩ := hc
        have hdst := chkDst_eq h1
        simp only [wItems, wItem] at h
        simp only [wpList]
        split at h <;> (try (cases h; done))
        · rename_i hw
          rw [if_pos (wanted_rel hF h2 hw)]
          refine .inl (simI hW hF h3 (K := fun v S' => wItems (RSim P w0) is (fr.put oc.dst v) S' (Q .normal) (fun v S' => Q (.panic v) fr0 S')) (Kp := fun v S' => Q (.panic v) fr0 S') ?_ ?_ ?_)
          · exact h
          · intro g' v S' u w' hl hw' hv hk
            exact ih (hl0.trans hl) h4 hw' (by rw [hdst]; exact (hF.mono hl).put hv) (by rw [put_defers]; exact hd) hk
          · intro g' v S' u w' hl hw' hv hk
            exact ⟨hd, g', fr0, S', v, u, rfl, hl0.trans hl, hw', hv, hk⟩
        · rename_i hw
          rw [if_neg (by rw [wanted_rel hF h2 hw]; simp)]
          exact ih hl0 h4 hW (by rw [hdst]; exact hF.put ⟨[], rfl, rfl⟩) (by rw [put_defers]; exact hd) h
end
end Go.VM
