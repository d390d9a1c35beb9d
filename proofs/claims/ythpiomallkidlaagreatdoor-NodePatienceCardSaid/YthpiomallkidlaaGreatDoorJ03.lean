/-
  Parts: VmSimC, VmDraw, VmCode, VmUse, VmStr.
-/
import Derived.Test.YthpiomallkidlaaGreatDoorJ02
import Derived.Test.YthpiomallkidlaaGreatDoorJ01
set_option linter.unusedVariables false
set_option linter.unusedSimpArgs false
namespace Go.VM
open Go Go.RowKit
def chkI (P : Program) (n : Nat) (o : Op) : I → Bool
 | .f i => chkFI P n o i
 | .e i => chkEI P n o i
def chkG (n : Nat) (ops : Array Oper) : Option (Nat × Bool) → Option (Nat × Bool) → Bool
 | none, none => true
 | some (j, want), some (t, want') => decide (want = want') && (match (ops[j]?).bind (·.dst) with | some t' => decide (t = t') && decide (t < n) | none => false)
 | _, _ => false
def chkDst (n : Nat) : Option Nat → Option Nat → Bool
 | none, none => true
 | some d, some d' => decide (d = d') && decide (d < n)
 | _, _ => false
def chkOp (P : Program) (n : Nat) (ops : Array Oper) (o : Oper) (oc : OpC) : Bool :=
 chkDst n o.dst oc.dst && chkG n ops o.guard oc.g && chkI P n o.op oc.i
def chkPlain (P : Program) (n : Nat) (ops : Array Oper) : List Oper → List Item → Bool
 | [], [] => true
 | o :: os, .run oc :: is => chkOp P n ops o oc && chkPlain P n ops os is
 | _, _ => false
section
variable {P : Program} {w0 w : World} {g : G} {S : St} {n : Nat} {fr : Fr} {a : Act} {ops : Array Oper}
theorem chkDst_eq {d d' : Option Nat} (h : chkDst n d d' = true) : d = d' := by
 unfold chkDst at h
 split at h
 ·rfl
 ·simp only [Bool.and_eq_true, decide_eq_true_eq] at h; rw [h.1]
 ·cases h
theorem rel_isBool {v : V} {b : Bool} (h : RelV g v (.bool b)) : v = .bool b ∨ v = .poison ∨ ∃ a, v = .abs a := by
 cases v with
 | bool c => left; injection (h : Value.bool b = .bool c) with h; rw [h]
 | poison => exact .inr (.inl rfl)
 | abs a => exact .inr (.inr ⟨a, rfl⟩)
 | ptr p => cases p with
  | none => cases (h : Value.bool b = .pointer none)
  | some p => obtain ⟨_, _⟩ := p; cases h.2
 | eptr => obtain ⟨_, _, _, h, _⟩ := h; cases h
 | sl => obtain ⟨_, h⟩ := h; rcases h with ⟨_, _, _, h⟩ | ⟨_, _, _, _, _, h, _⟩ | ⟨_, _, _, _, h⟩ <;> cases h
 | msl => obtain ⟨_, _, h, _⟩ := h; cases h
 | map r => cases r with
  | none => cases (h : Value.bool b = .map none)
  | some r => cases h.2
 | iter => cases h.2
 | func => obtain ⟨_, _, h, _⟩ := h; cases h
 | iface => obtain ⟨_, h, _⟩ := h; cases h
 | agg => obtain ⟨_, h, _⟩ := h; cases h
 | tup => obtain ⟨_, h, _⟩ := h; cases h
 | int k m => cases (h : Value.bool b = .int k m)
 | str s => cases (h : Value.bool b = .string s)
 | nilFunc => cases (h : Value.bool b = .nilFunc)
 | nilIface => cases (h : Value.bool b = .nilIface)
def boolOf : Value → Option Bool
 | .bool b => some b
 | _ => none
theorem notBool {u : Value} (h : ∀ b, u ≠ .bool b) : boolOf u = none := by
 cases u <;> first | exact absurd rfl (h _) | rfl
theorem wanted_rel (hF : RelF g n fr a.tmps) {o : Oper} {og : Option (Nat × Bool)} (h : chkG n ops o.guard og = true) {b : Bool} (hw : wanted fr og = some b) : Region.wanted o (yielded ops a.tmps) = b := by
 unfold chkG at h
 unfold Region.wanted
 split at h
 ·rename_i h1
  rw [h1]
  simp only [wanted] at hw
  injection hw with hw
 ·rename_i j want t want' h1
  rw [h1]
  simp only [Bool.and_eq_true, decide_eq_true_eq] at h
  obtain ⟨rfl, h⟩ := h
  split at h <;> (try (cases h; done))
  rename_i t' ht'
  simp only [Bool.and_eq_true, decide_eq_true_eq] at h
  obtain ⟨rfl, ht⟩ := h
  have hrel := hF.2 t ht
  have hsz : t < a.tmps.size := by rw [hF.1]; exact ht
  have hget : a.tmps[t]? = some (a.tmps.getD t undef) := by
   rw [Array.getElem?_eq_getElem hsz]
   simp [Array.getD, hsz]
  have hy : yielded ops a.tmps j = boolOf (a.tmps.getD t undef) := by
   unfold yielded
   rw [ht']
   simp only [Option.bind_some, hget]
   generalize a.tmps.getD t undef = u
   cases u <;> rfl
  dsimp only
  rw [hy]
  simp only [wanted] at hw
  split at hw
  ·rename_i b' hb'
   rw [hb'] at hrel
   have e := rel_bool hrel
   simp only [Option.some.injEq] at hw
   rw [e, ← hw]
   rfl
  ·rename_i h1
   have hnp : fr t ≠ .poison := fun e => by rw [e] at hw; cases hw
   have hna : ∀ x, fr t ≠ .abs x := fun x e => by rw [e] at hw; cases hw
   have hw : some false = some b := by
    rw [← hw]
    generalize fr t = v at hnp hna
    cases v <;> first | rfl | exact absurd rfl hnp | exact absurd rfl (hna _)
   injection hw with hw
   subst hw
   have hnb : ∀ b, a.tmps.getD t undef ≠ .bool b := fun b hb => by
    rw [hb] at hrel
    rcases rel_isBool hrel with hh | hh | ⟨x, hh⟩
    ·exact h1 _ hh
    ·exact hnp hh
    ·exact hna _ hh
   rw [notBool hnb]
   rfl
 ·cases h
theorem call_upon {o : Oper} {next : Act → World → Prop} {Q : Exit → Act → World → Prop} {K Kp : V → St → Prop} {f : FuncId} {args : List V} {us : List Value} (hW : RelW w0 g S w) (hr : RelL g args us)
  (h : RSim P w0 f args S (fun | .ret v, S' => K v S' | .pan v, S' => Kp v S'))
  (hnext : ∀ g' v S' u w', g.le g' → RelW w0 g' S' w' → RelV g' v u → K v S' → next (a.put o.dst u) w')
  (hpan : ∀ g' v S' u w', g.le g' → RelW w0 g' S' w' → RelV g' v u → Kp v S' → Q (.panic [{ v := u, recovered := false }]) a w') :
  o.upon P a next Q (.ok (.enter f us.toArray) w) := by
 show Calls P f us.toArray w _
 refine (h.2 g w us hW hr).mono ?_
 rintro e w' ⟨g', S', e', hl, hw', hre, hq⟩
 cases e' with
 | ret v =>
  cases e with
  | returned u => exact hnext g' v S' u w' hl hw' hre hq
  | panicked c => exact hre.elim
  | outgrown => exact hre.elim
 | pan v =>
  cases e with
  | returned u => exact hre.elim
  | panicked c =>
   obtain ⟨u, rfl, hu⟩ := hre
   exact hpan g' v S' u w' hl hw' hu hq
  | outgrown => exact hre.elim
theorem callFunc_run {f : FuncId} (h : Enters P f) (args : Array Value) (w : World) : (callFunc f args).run P w = .ok (.enter f args) w := by
 obtain ⟨fn, h1, h2, h3⟩ := h
 simp only [callFunc, Sem.run_bind, run_program, Result.andThen_ok, h1, h3, Bool.false_eq_true, if_false, h2, Sem.run_pure]
theorem simEI (hW : RelW w0 g S w) (hF : RelF g n fr a.tmps) {o : Oper} {i : EI} (hc : chkEI P n o.op i = true) {K Kp : V → St → Prop} (h : wE (RSim P w0) i fr S K Kp) {next : Act → World → Prop} {Q : Exit → Act → World → Prop}
  (hnext : ∀ g' v S' u w', g.le g' → RelW w0 g' S' w' → RelV g' v u → K v S' → next (a.put o.dst u) w')
  (hpan : ∀ g' v S' u w', g.le g' → RelW w0 g' S' w' → RelV g' v u → Kp v S' → Q (.panic [{ v := u, recovered := false }]) a w') : o.wp P a w next Q := by
 cases hq : i.quiet with
 | true =>
  obtain ⟨u, w', g', v, S', hrun, hl, hw', hv, hk⟩ := simQuietE _ hW hF hc h hq
  unfold Oper.wp
  rcases hrun with hrun | ⟨hrun, rfl⟩
  ·rw [hrun]; exact hnext g' v S' u w' hl hw' hv hk
  ·rw [hrun]; exact hnext g' v S' undef w' hl hw' hv hk
 | false =>
  cases i <;> simp only [EI.quiet] at hq <;> (try (cases hq; done))
  ·rename_i f' args'
   simp only [chkEI] at hc
   split at hc
   ·rename_i f xs ts ho
    simp only [Bool.and_eq_true, decide_eq_true_eq] at hc
    obtain ⟨rfl, h1⟩ := hc
    simp only [wE] at h
    have hrun : (execOp a.eval o).run P w = .ok (.enter f (xs.toList.map a.eval).toArray) w := by
     have hm : xs.map a.eval = (xs.toList.map a.eval).toArray := by rw [← Array.toList_map, Array.toArray_toList]
     simp only [execOp, ho, resolve, Act.eval, Deferred.ofValue, Sem.run_bind, Sem.run_pure, Result.andThen_ok, invoke]
     rw [Array.empty_append, Array.append_empty, callFunc_run h.1]
     congr 2
    unfold Oper.wp
    rw [hrun]
    exact call_upon hW (chkAs_rel hF h1) h hnext hpan
   ·cases hc
  ·rename_i x' args'
   simp only [chkEI] at hc
   split at hc
   ·rename_i x xs ts ho
    simp only [Bool.and_eq_true] at hc
    obtain ⟨h0, h1⟩ := hc
    simp only [wE] at h
    split at h <;> (try (cases h; done))
    rename_i f pre cap he
    have k := chkA_rel hF h0
    rw [he] at k
    obtain ⟨us, ws, e1, r1, r2⟩ := k
    have r3 := (r1.append (chkAs_rel hF h1)).append r2
    have hrun : (execOp a.eval o).run P w = .ok (.enter f (us ++ xs.toList.map a.eval ++ ws).toArray) w := by
     have hm : xs.map a.eval = (xs.toList.map a.eval).toArray := by rw [← Array.toList_map, Array.toArray_toList]
     simp only [execOp, ho, resolve, e1, Deferred.ofValue, Sem.run_bind, Sem.run_pure, Result.andThen_ok, invoke]
     rw [callFunc_run h.1, hm]
     simp
    unfold Oper.wp
    rw [hrun]
    exact call_upon hW r3 h hnext hpan
   ·cases hc
  ·rename_i x'
   simp only [chkEI] at hc
   split at hc
   ·rename_i xs ts ho
    split at hc <;> (try (cases hc; done))
    rename_i x hxs
    obtain rfl : xs = #[x] := Array.toList_inj.1 hxs
    have k := chkA_rel hF hc
    simp only [wE] at h
    split at h <;> (try (cases h; done))
    rename_i t v he
    rw [he] at k
    have k' := k
    obtain ⟨u, e1, _⟩ := k
    have hrun : (execOp a.eval o).run P w = .halt (.panic (a.eval x)) w := by
     simp [execOp, ho, resolve, invoke, builtin, e1, Instr.panic]
    unfold Oper.wp
    rw [hrun]
    exact hpan g _ S _ w (G.le.refl g) hW k' h
   ·cases hc
def wI (cl : Cl) (i : I) (fr : Fr) (S : St) (K Kp : V → St → Prop) : Prop :=
 match i with
 | .f i => match aF i fr S with
  | some v => K v S
  | none => False
 | .e i => wE cl i fr S K Kp
theorem simI (hW : RelW w0 g S w) (hF : RelF g n fr a.tmps) {o : Oper} {i : I} (hc : chkI P n o.op i = true) {K : V → St → Prop} {Kp : V → St → Prop}
  (h : wI (RSim P w0) i fr S K Kp) {next : Act → World → Prop} {Q : Exit → Act → World → Prop}
  (hnext : ∀ g' v S' u w', g.le g' → RelW w0 g' S' w' → RelV g' v u → K v S' → next (a.put o.dst u) w')
  (hpan : ∀ g' v S' u w', g.le g' → RelW w0 g' S' w' → RelV g' v u → Kp v S' → Q (.panic [{ v := u, recovered := false }]) a w') : o.wp P a w next Q := by
 cases i with
 | e i => exact simEI hW hF hc h hnext hpan
 | f i =>
  simp only [wI] at h
  split at h <;> (try (cases h; done))
  rename_i v hv
  obtain ⟨u, hrun, hu⟩ := simFI hW hF hc hv
  unfold Oper.wp
  rw [hrun]
  exact hnext g v S u w (G.le.refl g) hW hu h
def QRel (D : List Deferred) (w0 : World) (n : Nat) (g : G) (Q : CPost) : Exit → Act → World → Prop
 | .normal, a, w => a.defers = D ∧ ∃ g' fr S, g.le g' ∧ RelW w0 g' S w ∧ RelF g' n fr a.tmps ∧ Q .normal fr S
 | .exit id, a, w => a.defers = D ∧ ∃ g' fr S, g.le g' ∧ RelW w0 g' S w ∧ RelF g' n fr a.tmps ∧ Q (.exit id) fr S
 | .ret, a, w => a.defers = D ∧ ∃ g' fr S, g.le g' ∧ RelW w0 g' S w ∧ RelF g' n fr a.tmps ∧ Q .ret fr S
 | .panic c, a, w => a.defers = D ∧ ∃ g' fr S v u, c = [{ v := u, recovered := false }] ∧ g.le g' ∧ RelW w0 g' S w ∧ RelV g' v u ∧ Q (.panic v) fr S
 | _, _, _ => False
theorem put_defers (a : Act) (d : Option Tmp) (u : Value) : (a.put d u).defers = a.defers := by cases d <;> rfl
theorem simPlain {D : List Deferred} {g0 : G} {fr0 : Fr} (hl0 : g0.le g) {Q : CPost} : ∀ {os : List Oper} {is : List Item}, chkPlain P n ops os is = true → RelW w0 g S w → RelF g n fr a.tmps → a.defers = D →
  wItems (RSim P w0) is fr S (Q .normal) (fun v S' => Q (.panic v) fr0 S') → wpList P ops (QRel D w0 n g0 Q) os a w := by
 intro os
 induction os generalizing g S fr a w with
 | nil =>
  intro is hc hW hF hd h
  cases is with
  | nil => exact ⟨hd, g, fr, S, hl0, hW, hF, h⟩
  | cons => cases hc
 | cons o os ih =>
  intro is hc hW hF hd h
  cases is with
  | nil => cases hc
  | cons x is =>
   cases x with
   | chk => cases hc
   | run oc =>
    simp only [chkPlain, chkOp, Bool.and_eq_true] at hc
    obtain ⟨⟨⟨h1, h2⟩, h3⟩, h4⟩ := hc
    have hdst := chkDst_eq h1
    simp only [wItems, wItem] at h
    simp only [wpList]
    split at h <;> (try (cases h; done))
    ·rename_i hw
     rw [if_pos (wanted_rel hF h2 hw)]
     refine .inl (simI hW hF h3 (K := fun v S' => wItems (RSim P w0) is (fr.put oc.dst v) S' (Q .normal) (fun v S' => Q (.panic v) fr0 S')) (Kp := fun v S' => Q (.panic v) fr0 S') ?_ ?_ ?_)
     ·exact h
     ·intro g' v S' u w' hl hw' hv hk
      exact ih (hl0.trans hl) h4 hw' (by rw [hdst]; exact (hF.mono hl).put hv) (by rw [put_defers]; exact hd) hk
     ·intro g' v S' u w' hl hw' hv hk
      exact ⟨hd, g', fr0, S', v, u, rfl, hl0.trans hl, hw', hv, hk⟩
    ·rename_i hw
     rw [if_neg (by rw [wanted_rel hF h2 hw]; simp)]
     exact ih hl0 h4 hW (by rw [hdst]; exact hF.put ⟨[], rfl, rfl⟩) (by rw [put_defers]; exact hd) h
end
end Go.VM
namespace Go.VM
open Go
def Arg.slots : Arg → List Nat
 | .t i => [i]
 | .c _ => []
def optSlots : Option Arg → List Nat
 | some a => a.slots
 | none => []
def FI.slots : FI → List Nat
 | .mv x | .nilCheck x | .un _ x | .conv _ x | .fieldAddr _ x | .field _ _ _ x | .load _ _ x | .len _ x | .mkIface _ x | .extract x _ | .assertT _ _ _ x | .entry x => x.slots
 | .pick c a b => c.slots ++ (a.slots ++ b.slots)
 | .bin _ x y | .eq _ _ x y | .eqA _ _ x y | .indexAddr _ x y | .indexAddrA _ _ x y | .indexS x y | .indexA _ _ _ x y | .lookup _ _ _ x y => x.slots ++ y.slots
 | .sliceS x lo hi => x.slots ++ (optSlots lo ++ optSlots hi)
 | .slice _ x lo hi mx => x.slots ++ (optSlots lo ++ (optSlots hi ++ optSlots mx))
 | .build _ parts => parts.flatMap fun p => p.2.2.slots
 | .mkFunc _ pre cap => pre.flatMap Arg.slots ++ cap.flatMap Arg.slots
 | .minmax _ xs => xs.flatMap Arg.slots
def EI.slots : EI → List Nat
 | .alloc _ | .makeMap => []
 | .box x | .range x | .next x | .strBytes x | .bytesSame x | .frz x | .panic x => x.slots
 | .buildSlice _ _ _ _ parts => parts.flatMap fun p => p.2.2.slots
 | .store _ a x => a.slots ++ x.slots
 | .append _ _ _ s x | .copy _ s x => s.slots ++ x.slots
 | .makeSlice _ _ _ _ l c => l.slots ++ c.slots
 | .mapSet _ m k v => m.slots ++ (k.slots ++ v.slots)
 | .delete _ m k => m.slots ++ k.slots
 | .call _ args => args.flatMap Arg.slots
 | .callV x args => x.slots ++ args.flatMap Arg.slots
def I.slots : I → List Nat
 | .f i => i.slots
 | .e i => i.slots
def gSlots : Option (Nat × Bool) → List Nat
 | some (t, _) => [t]
 | none => []
def AgreeOn (l : List Nat) (fr fr' : Fr) : Prop := ∀ t ∈ l, fr t = fr' t
section
variable {fr fr' : Fr}
theorem AgreeOn.left {l m : List Nat} (h : AgreeOn (l ++ m) fr fr') : AgreeOn l fr fr' := fun t ht => h t (List.mem_append_left _ ht)
theorem AgreeOn.right {l m : List Nat} (h : AgreeOn (l ++ m) fr fr') : AgreeOn m fr fr' := fun t ht => h t (List.mem_append_right _ ht)
theorem ev_congr {x : Arg} (h : AgreeOn x.slots fr fr') : x.ev fr = x.ev fr' := by
 cases x with
 | t i => exact h i (by simp [Arg.slots])
 | c v => rfl
theorem evs_congr {xs : List Arg} (h : AgreeOn (xs.flatMap Arg.slots) fr fr') : xs.map (Arg.ev fr) = xs.map (Arg.ev fr') := by
 apply List.map_congr_left
 intro x hx
 exact ev_congr fun t ht => h t (List.mem_flatMap.2 ⟨x, hx, ht⟩)
theorem fill_congr : ∀ {parts : List (Nat × Nat × Arg)} (zero : List V), AgreeOn (parts.flatMap fun p => p.2.2.slots) fr fr' → fillV fr zero parts = fillV fr' zero parts
 | [], _, _ => rfl
 | (off, sz, x) :: r, zero, h => by
  have hx : x.ev fr = x.ev fr' := ev_congr fun t ht => h t (by simp [ht])
  have hr : AgreeOn (r.flatMap fun p => p.2.2.slots) fr fr' := fun t ht => h t (by
   rw [List.flatMap_cons]; exact List.mem_append_right _ ht)
  simp only [fillV, hx]
  split
  ·exact fill_congr _ hr
  ·rfl
theorem bounds_congr {len : Nat} {lo hi : Option Arg} (h1 : AgreeOn (optSlots lo) fr fr') (h2 : AgreeOn (optSlots hi) fr fr') : bounds fr len lo hi = bounds fr' len lo hi := by
 unfold bounds
 cases lo <;> cases hi <;> simp only [optSlots] at h1 h2
 ·rfl
 ·simp only [ev_congr h2]
 ·simp only [ev_congr h1]
 ·simp only [ev_congr h1, ev_congr h2]
theorem slice_congr {sz : Nat} {lo hi mx : Option Arg} (h1 : AgreeOn (optSlots lo) fr fr') (h2 : AgreeOn (optSlots hi) fr fr') (h3 : AgreeOn (optSlots mx) fr fr') (v : V) : sliceV fr sz lo hi mx v = sliceV fr' sz lo hi mx v := by
 unfold sliceV
 have hb : ∀ len, bounds fr len lo hi = bounds fr' len lo hi := fun len => bounds_congr h1 h2
 cases mx with
 | none => simp only [hb, Option.bind_none]
 | some a =>
  have : a.ev fr = a.ev fr' := ev_congr h3
  have e : ((some a).bind fun a => (a.ev fr).idx) = (some a).bind fun a => (a.ev fr').idx := by show (a.ev fr).idx = (a.ev fr').idx; rw [this]
  simp only [hb, this, e]
theorem aF_congr {i : FI} (S : St) (h : AgreeOn i.slots fr fr') : aF i fr S = aF i fr' S := by
 cases i <;> simp only [FI.slots] at h
 case build z parts => simp only [aF]; rw [fill_congr _ h]
 case mkFunc f pre cap => simp only [aF]; rw [evs_congr h.left, evs_congr h.right]
 case minmax m xs =>
  simp only [aF]
  cases xs with
  | nil => rfl
  | cons x r =>
   have hx : x.ev fr = x.ev fr' := ev_congr fun t ht => h t (by simp [ht])
   have hr : r.map (Arg.ev fr) = r.map (Arg.ev fr') := evs_congr fun t ht => h t (by
    rw [List.flatMap_cons]; exact List.mem_append_right _ ht)
   simp only [hx, hr]
 case sliceS x lo hi => simp only [aF]; rw [ev_congr h.left]; simp only [bounds_congr h.right.left h.right.right]
 case slice sz x lo hi mx => simp only [aF]; rw [ev_congr h.left]; exact slice_congr h.right.left h.right.right.left h.right.right.right _
 case pick => simp only [aF]; rw [ev_congr h.left, ev_congr h.right.left, ev_congr h.right.right]
 case len k x => cases k <;> simp only [aF] <;> rw [ev_congr h]
 all_goals (simp only [aF])
 all_goals (first | rw [ev_congr h] | rw [ev_congr h.left, ev_congr h.right])
theorem wE_congr {cl : Cl} {i : EI} (S : St) {K Kp : V → St → Prop} (h : AgreeOn i.slots fr fr') : wE cl i fr S K Kp → wE cl i fr' S K Kp := by
 cases i <;> simp only [EI.slots] at h
 case buildSlice => simp only [wE]; rw [fill_congr _ h]; exact id
 case call => simp only [wE]; rw [evs_congr h]; exact id
 case callV => simp only [wE]; rw [ev_congr h.left, evs_congr h.right]; exact id
 case mapSet => simp only [wE]; rw [ev_congr h.left, ev_congr h.right.left, ev_congr h.right.right]; exact id
 all_goals (simp only [wE])
 all_goals (first | exact id | (rw [ev_congr h]; exact id) | (rw [ev_congr h.left, ev_congr h.right]; exact id))
theorem wanted_congr {g : Option (Nat × Bool)} (h : AgreeOn (gSlots g) fr fr') : wanted fr g = wanted fr' g := by
 cases g with
 | none => rfl
 | some q =>
  obtain ⟨t, b⟩ := q
  simp only [wanted]
  rw [h t (by simp [gSlots])]
def FI.reader : FI → Bool
 | .load .. | .len .map _ | .lookup .. | .entry _ | .conv .bytesStr _ => true
 | _ => false
theorem aF_store {i : FI} (h : i.reader = false) (fr : Fr) (S S' : St) : aF i fr S = aF i fr S' := by
 cases i <;> simp only [FI.reader] at h <;> (try (cases h; done)) <;> (try rfl)
 case conv c x => cases c <;> simp only [FI.reader] at h <;> (try (cases h; done)) <;> simp only [aF] <;> generalize x.ev fr = v <;> cases v <;> first | rfl | (rename_i a; cases a <;> rfl)
 case len k x => cases k <;> simp only [FI.reader] at h <;> (try (cases h; done)) <;> rfl
end
end Go.VM
namespace Go.VM
open Go Go.RowKit
def depsOf (o : Oper) : List Nat := o.after.toList.filterMap fun e => if Region.binds .any e then some e.on else none
def maskOf (acc : List Nat) (ds : List Nat) : Nat := ds.foldr (fun d s => s ||| (2 ^ d ||| acc.getD d 0)) 0
def befGo (ops : Array Oper) : List Nat → List Nat → List Nat
 | [], acc => acc
 | i :: r, acc => befGo ops r (acc.set i (maskOf acc (match ops[i]? with | some o => depsOf o | none => [])))
def bef (B : List Nat) (i j : Nat) : Bool := (B.getD i 0).testBit j
theorem maskOf_bit {acc : List Nat} : ∀ {ds : List Nat} {j : Nat}, (maskOf acc ds).testBit j = true → ∃ d ∈ ds, j = d ∨ (acc.getD d 0).testBit j = true
 | [], j, h => by simp [maskOf] at h
 | d :: ds, j, h => by
  simp only [maskOf, List.foldr_cons] at h
  rw [Nat.testBit_or, Nat.testBit_or, Bool.or_eq_true, Bool.or_eq_true, Nat.testBit_two_pow] at h
  rcases h with h | h | h
  ·obtain ⟨d', hd, hh⟩ := maskOf_bit (ds := ds) h
   exact ⟨d', List.mem_cons_of_mem _ hd, hh⟩
  ·exact ⟨d, List.mem_cons_self, .inl (by simpa using (of_decide_eq_true h).symm)⟩
  ·exact ⟨d, List.mem_cons_self, .inr h⟩
theorem befGo_listed {ops : Array Oper} {L : Nat → Bool} (hL : ∀ i o, ops[i]? = some o → L i = true → ∀ d ∈ depsOf o, L d = true) : ∀ (q acc : List Nat), acc.length = ops.size →
  (∀ i o, ops[i]? = some o → (∀ d ∈ depsOf o, L d = true) → ∀ j, bef acc i j = true → L j = true) →
  ∀ i o, ops[i]? = some o → (∀ d ∈ depsOf o, L d = true) → ∀ j, bef (befGo ops q acc) i j = true → L j = true
 | [], acc, _, h => h
 | k :: q, acc, hl, h => by
  refine befGo_listed hL q _ (by simpa using hl) fun i o ho hd j hj => ?_
  by_cases hk : k = i
  ·subst hk
   have hi := (Array.getElem?_eq_some_iff.1 ho).1
   unfold bef at hj
   rw [ho] at hj
   have e : (acc.set k (maskOf acc (depsOf o))).getD k 0 = maskOf acc (depsOf o) := by
    simp only [List.getD, List.getElem?_set, if_pos (show k < acc.length by omega), if_true, Option.getD_some]
   simp only [e] at hj
   obtain ⟨d, hdm, hdj⟩ := maskOf_bit hj
   rcases hdj with rfl | hdj
   ·exact hd _ hdm
   ·rcases Nat.lt_or_ge d ops.size with hlt | hge
    ·have hod : ops[d]? = some ops[d] := Array.getElem?_eq_getElem hlt
     exact h d _ hod (hL d _ hod (hd d hdm)) j hdj
    ·exfalso
     have : acc.getD d 0 = 0 := by
      simp only [List.getD]
      rw [List.getElem?_eq_none (by omega)]
      rfl
     rw [this] at hdj
     simp at hdj
  ·refine h i o ho hd j ?_
   unfold bef at hj ⊢
   have e : ∀ m, (acc.set k m).getD i 0 = acc.getD i 0 := fun m => by
    simp only [List.getD, List.getElem?_set, if_neg hk]
   rw [e] at hj
   exact hj
theorem bef_listed {ops : Array Oper} {q : List Nat} {L : Nat → Bool} (hL : ∀ i o, ops[i]? = some o → L i = true → ∀ d ∈ depsOf o, L d = true) (i : Nat) (o : Oper) (ho : ops[i]? = some o) (hd : ∀ d ∈ depsOf o, L d = true) (j : Nat) (hj : bef (befGo ops q (List.replicate ops.size 0)) i j = true) : L j = true :=
 befGo_listed hL q _ (by simp) (fun i o _ _ j hj => by
  exfalso
  unfold bef at hj
  have : (List.replicate ops.size 0).getD i 0 = 0 := by
   simp only [List.getD, List.getElem?_replicate]
   split <;> rfl
  rw [this] at hj
  simp at hj) i o ho hd j hj
abbrev Seq := List (Nat × Item)
def isEff : Item → Bool
 | .run ⟨_, _, .e _⟩ => true
 | _ => false
def isRun : Item → Bool
 | .run _ => true
 | _ => false
def runsOf (q : Seq) : List Nat := (q.filter fun x => isRun x.2).map (·.1)
def befs (ops : Array Oper) (q : Seq) : List Nat := befGo ops (runsOf q) (List.replicate ops.size 0)
def opSlots (oc : OpC) : List Nat := gSlots oc.g ++ oc.i.slots
def dstAt (ops : Array Oper) (i : Nat) : Option Nat := (ops[i]?).bind (·.dst)
def chkReads (B : List Nat) (ops : Array Oper) (i : Nat) (slots : List Nat) (strict : Bool) : Bool :=
 slots.all fun t => (List.range ops.size).all fun j => if dstAt ops j = some t then (j != i && (bef B i j || (!strict && bef B j i))) else true
def chkBehind (B : List Nat) (before : Seq) (e : Nat) (rest : Seq) : Bool :=
 before.all fun x => match x.2 with
  | .run ⟨_, _, .f fi⟩ => !fi.reader || bef B e x.1 || (rest.takeWhile fun y => !isEff y.2).any fun y => y.1 == x.1 && !isRun y.2
  | _ => true
def chkSeq (P : Program) (n : Nat) (B : List Nat) (ops : Array Oper) : Seq → Seq → Bool
 | _, [] => true
 | before, (i, x) :: rest =>
  (match x with
  | .run oc => (match ops[i]? with
   | some o => chkOp P n ops o oc && chkReads B ops i (opSlots oc) false
   | none => false) &&
   -- nothing that comes ahead of it comes behind it here; it was not there before
   (rest.all fun y => !(isRun y.2 && bef B i y.1)) && !(runsOf before).contains i && !bef B i i &&
   -- who acts ahead of it here comes ahead of it
   (before.all fun y => !isEff y.2 || bef B i y.1) &&
   (match oc.i with | .e _ => chkBehind B before i rest | .f _ => true)
  | .chk d g fi => (before.any fun y => y.1 == i && (match y.2 with | .run ⟨_, _, .f fi'⟩ => fi'.reader | _ => false)) && (match ops[i]? with
   | some o => chkOp P n ops o ⟨some d, g, .f fi⟩ && chkReads B ops i (opSlots ⟨some d, g, .f fi⟩) true
   | none => false)) &&
  chkSeq P n B ops (before ++ [(i, x)]) rest
def uniqDst (ops : Array Oper) : Bool :=
 (List.range ops.size).all fun i => (List.range ops.size).all fun j => i == j || (match dstAt ops i with | some t => decide (dstAt ops j ≠ some t) | none => true)
def chkDraw (P : Program) (n : Nat) (ops : Array Oper) (q : Seq) : Bool :=
 decide (ops.size = (runsOf q).length) && ((List.range ops.size).all fun i => (runsOf q).contains i) && uniqDst ops &&
 ((List.range ops.size).all fun i => match ops[i]? with | some o => (depsOf o).all fun d => decide ((runsOf q).idxOf d < (runsOf q).idxOf i) | none => false) &&
 chkSeq P n (befs ops q) ops [] q
end Go.VM
namespace Go.VM
open Go Go.RowKit
theorem runsOf_append (a b : Seq) : runsOf (a ++ b) = runsOf a ++ runsOf b := by simp [runsOf]
theorem runsOf_run (i : Nat) (oc : OpC) (b : Seq) : runsOf ((i, .run oc) :: b) = i :: runsOf b := by simp [runsOf, isRun]
theorem runsOf_chk (i d : Nat) (g : Option (Nat × Bool)) (fi : FI) (b : Seq) : runsOf ((i, .chk d g fi) :: b) = runsOf b := by simp [runsOf, isRun]
theorem mem_runsOf {q : Seq} {i : Nat} : i ∈ runsOf q ↔ ∃ oc, (i, Item.run oc) ∈ q := by
 simp only [runsOf, List.mem_map, List.mem_filter]
 constructor
 ·rintro ⟨⟨j, x⟩, ⟨h1, h2⟩, rfl⟩
  cases x with
  | run oc => exact ⟨oc, h1⟩
  | chk => simp [isRun] at h2
 ·rintro ⟨oc, h⟩
  exact ⟨(i, .run oc), ⟨h, rfl⟩, rfl⟩
def mixF (ops : Array Oper) (L : Nat → Bool) (fr fr0 : Fr) : Fr := fun t => if ((List.range ops.size).any fun j => decide (dstAt ops j = some t) && L j) = true then fr t else fr0 t
theorem mix_yes {ops : Array Oper} {L : Nat → Bool} {fr fr0 : Fr} {t j : Nat} (hj : j < ops.size) (hd : dstAt ops j = some t) (hL : L j = true) : mixF ops L fr fr0 t = fr t := by
 unfold mixF
 rw [if_pos]
 rw [List.any_eq_true]
 exact ⟨j, by simpa using hj, by simp [hd, hL]⟩
theorem mix_no {ops : Array Oper} {L : Nat → Bool} {fr fr0 : Fr} {t : Nat} (h : ∀ j, j < ops.size → dstAt ops j = some t → L j = false) : mixF ops L fr fr0 t = fr0 t := by
 unfold mixF
 rw [if_neg]
 rw [List.any_eq_true]
 rintro ⟨j, hj, hh⟩
 simp only [Bool.and_eq_true, decide_eq_true_eq] at hh
 have := h j (by simpa using hj) hh.1
 rw [hh.2] at this
 cases this
theorem reads_spec {B : List Nat} {ops : Array Oper} {i : Nat} {slots : List Nat} {strict : Bool} (h : chkReads B ops i slots strict = true) {t j : Nat} (ht : t ∈ slots) (hj : j < ops.size) (hd : dstAt ops j = some t) :
  j ≠ i ∧ (bef B i j = true ∨ (strict = false ∧ bef B j i = true)) := by
 unfold chkReads at h
 have h1 := List.all_eq_true.1 (List.all_eq_true.1 h t ht) j (by simpa using hj)
 rw [if_pos hd] at h1
 simp only [Bool.and_eq_true, bne_iff_ne, Bool.or_eq_true, Bool.not_eq_true'] at h1
 exact h1
theorem uniq_spec {ops : Array Oper} (h : uniqDst ops = true) {i j t : Nat} (hi : i < ops.size) (hj : j < ops.size) (h1 : dstAt ops i = some t) (h2 : dstAt ops j = some t) : i = j := by
 unfold uniqDst at h
 have := List.all_eq_true.1 (List.all_eq_true.1 h i (by simpa using hi)) j (by simpa using hj)
 rw [h1] at this
 simp only [Bool.or_eq_true, beq_iff_eq, decide_eq_true_eq] at this
 rcases this with this | this
 ·exact this
 ·exact absurd h2 this
section
variable {D : List Deferred} {P : Program} {w0 : World} {n : Nat} {ops : Array Oper} {B : List Nat} {q : Seq} {fr0 : Fr} {K : Fr → St → Prop} {Kp : V → St → Prop} {g0 : G}
def EvalTo (P : Program) (n : Nat) (ops : Array Oper) (B : List Nat) (done : Seq) (fr0 : Fr) (i : Nat) (fr : Fr) (S : St) : Prop :=
 ∃ oc fi o, ops[i]? = some o ∧ oc.i = .f fi ∧ chkOp P n ops o oc = true ∧ chkReads B ops i (opSlots oc) false = true ∧
  (fi.reader = true → ∃ oc' fi', (i, Item.run oc') ∈ done ∧ oc'.i = .f fi' ∧ fi'.reader = true) ∧
  ((wanted (mixF ops (bef B i) fr fr0) oc.g = some true ∧ ∃ v, aF fi (mixF ops (bef B i) fr fr0) S = some v ∧ ∀ d, oc.dst = some d → fr d = v) ∨
  (wanted (mixF ops (bef B i) fr fr0) oc.g = some false ∧ ∀ d, oc.dst = some d → fr d = .tup []))
def pend (rest : Seq) (i : Nat) : Bool := (rest.takeWhile fun y => !isEff y.2).any fun y => y.1 == i && !isRun y.2
def Waits (n : Nat) (ops : Array Oper) (B : List Nat) (fr0 : Fr) (rest : Seq) (i : Nat) (fr : Fr) : Prop :=
 pend rest i = true ∧ ∃ o og, ops[i]? = some o ∧ chkG n ops o.guard og = true ∧ wanted (mixF ops (bef B i) fr fr0) og = some true
structure DInv (D : List Deferred) (P : Program) (w0 : World) (n : Nat) (ops : Array Oper) (B : List Nat) (q : Seq) (fr0 : Fr) (K : Fr → St → Prop) (Kp : V → St → Prop) (g0 : G) (L : Nat → Bool) (done rest : Seq) (g : G) (fr : Fr) (S : St) (a : Act) (w : World) : Prop where
 seq : q = done ++ rest
 chk : chkSeq P n B ops done rest = true
 le : g0.le g
 W : RelW w0 g S w
 defers : a.defers = D
 form : wItems (RSim P w0) (rest.map (·.2)) fr S K Kp
 sub : ∀ i, L i = true → i ∈ runsOf done
 eff : ∀ x ∈ done, isEff x.2 = true → L x.1 = true
 frame : RelF g n (mixF ops L fr fr0) a.tmps
 unw : ∀ t, (∀ i ∈ runsOf done, dstAt ops i ≠ some t) → fr t = fr0 t
 ord : ∀ i ∈ runsOf done, ∀ j, bef B i j = true → j < ops.size → j ∈ runsOf done
 ev : ∀ i ∈ runsOf done, L i = false → EvalTo P n ops B done fr0 i fr S ∨ Waits n ops B fr0 rest i fr
structure DOk (P : Program) (n : Nat) (ops : Array Oper) (B : List Nat) (q : Seq) : Prop where
 all : ∀ i, i < ops.size → i ∈ runsOf q
 lt : ∀ i ∈ runsOf q, i < ops.size
 uniq : uniqDst ops = true
 down : ∀ i o, ops[i]? = some o → ∀ d ∈ depsOf o, (runsOf q).idxOf d < (runsOf q).idxOf i
 B : B = befs ops q
theorem chkG_one {o : Oper} {g g' : Option (Nat × Bool)} (h : chkG n ops o.guard g = true) (h' : chkG n ops o.guard g' = true) : g = g' := by
 unfold chkG at h h'
 cases ho : o.guard with
 | none =>
  rw [ho] at h h'
  cases g with
  | none => cases g' with
   | none => rfl
   | some q => cases h'
  | some q => cases h
 | some p =>
  obtain ⟨j, want⟩ := p
  rw [ho] at h h'
  cases g with
  | none => cases h
  | some q =>
   obtain ⟨t, b⟩ := q
   cases g' with
   | none => cases h'
   | some q' =>
    obtain ⟨t', b'⟩ := q'
    simp only [Bool.and_eq_true, decide_eq_true_eq] at h h'
    obtain ⟨rfl, h⟩ := h
    obtain ⟨rfl, h'⟩ := h'
    split at h <;> (try (cases h; done))
    rename_i x hx
    rw [hx] at h'
    simp only [Bool.and_eq_true, decide_eq_true_eq] at h h'
    rw [h.1, h'.1]
theorem mix_put {fr : Fr} (hok : DOk P n ops B q) {done : Seq} (hdq : ∀ i ∈ runsOf done, i ∈ runsOf q) (ord : ∀ i ∈ runsOf done, ∀ j, bef B i j = true → j < ops.size → j ∈ runsOf done) {k i : Nat} (hk : k ∈ runsOf done) (hi : i < ops.size) (hni : i ∉ runsOf done) (v : V) :
  mixF ops (bef B k) (fr.put (dstAt ops i) v) fr0 = mixF ops (bef B k) fr fr0 := by
 funext t
 by_cases h : ∃ j, j < ops.size ∧ dstAt ops j = some t ∧ bef B k j = true
 ·obtain ⟨j, hj, hd, hb⟩ := h
  rw [mix_yes hj hd hb, mix_yes hj hd hb]
  cases hdi : dstAt ops i with
  | none => rfl
  | some t' =>
   simp only [Fr.put]
   rw [if_neg]
   rintro rfl
   have := uniq_spec hok.uniq hi hj hdi hd
   subst this
   exact hni (ord k hk _ hb hj)
 ·have hno : ∀ j, j < ops.size → dstAt ops j = some t → bef B k j = false := fun j hj hd => by
   cases hb : bef B k j with
   | false => rfl
   | true => exact absurd ⟨j, hj, hd, hb⟩ h
  rw [mix_no hno, mix_no hno]
theorem put_other {fr : Fr} (hok : DOk P n ops B q) {k i d : Nat} (hk : k < ops.size) (hi : i < ops.size) (hne : k ≠ i) (hd : dstAt ops k = some d) (v : V) : (fr.put (dstAt ops i) v) d = fr d := by
 cases hdi : dstAt ops i with
 | none => rfl
 | some t =>
  simp only [Fr.put]
  rw [if_neg]
  rintro rfl
  exact hne (uniq_spec hok.uniq hk hi hd hdi)
theorem EvalTo.put {fr : Fr} {S : St} (hok : DOk P n ops B q) {done : Seq} (hdq : ∀ i ∈ runsOf done, i ∈ runsOf q) (ord : ∀ i ∈ runsOf done, ∀ j, bef B i j = true → j < ops.size → j ∈ runsOf done) {k i : Nat} (hk : k ∈ runsOf done) (hi : i < ops.size) (hni : i ∉ runsOf done) (v : V) {x : Nat × Item}
  (h : EvalTo P n ops B done fr0 k fr S) : EvalTo P n ops B (done ++ [x]) fr0 k (fr.put (dstAt ops i) v) S := by
 obtain ⟨oc, fi, o, h1, h2, h3, h4, h5, h6⟩ := h
 have hkl := hok.lt k (hdq k hk)
 have hne : k ≠ i := fun e => hni (e ▸ hk)
 have hdk : ∀ d, oc.dst = some d → dstAt ops k = some d := fun d hd => by
  simp only [chkOp, Bool.and_eq_true] at h3
  have := chkDst_eq h3.1.1
  simp [dstAt, h1, this, hd]
 refine ⟨oc, fi, o, h1, h2, h3, h4, fun hr => ?_, ?_⟩
 ·obtain ⟨oc', fi', a1, a2, a3⟩ := h5 hr
  exact ⟨oc', fi', List.mem_append_left _ a1, a2, a3⟩
 ·rw [mix_put hok hdq ord hk hi hni]
  rcases h6 with ⟨a1, u, a2, a3⟩ | ⟨a1, a2⟩
  ·exact .inl ⟨a1, u, a2, fun d hd => by rw [put_other hok hkl hi hne (hdk d hd)]; exact a3 d hd⟩
  ·exact .inr ⟨a1, fun d hd => by rw [put_other hok hkl hi hne (hdk d hd)]; exact a2 d hd⟩
theorem Waits.put {fr : Fr} (hok : DOk P n ops B q) {done rest rest' : Seq} (hdq : ∀ i ∈ runsOf done, i ∈ runsOf q) (ord : ∀ i ∈ runsOf done, ∀ j, bef B i j = true → j < ops.size → j ∈ runsOf done) {k i : Nat} (hk : k ∈ runsOf done) (hi : i < ops.size) (hni : i ∉ runsOf done) (v : V)
  (hp : pend rest' k = true) (h : Waits n ops B fr0 rest k fr) : Waits n ops B fr0 rest' k (fr.put (dstAt ops i) v) := by
 obtain ⟨_, o, og, h1, h2, h3⟩ := h
 exact ⟨hp, o, og, h1, h2, by rw [mix_put hok hdq ord hk hi hni]; exact h3⟩
theorem agree_head {fr : Fr} (hok : DOk P n ops B q) {done : Seq} (hdq : ∀ i ∈ runsOf done, i ∈ runsOf q) (ord : ∀ i ∈ runsOf done, ∀ j, bef B i j = true → j < ops.size → j ∈ runsOf done) (unw : ∀ t, (∀ i ∈ runsOf done, dstAt ops i ≠ some t) → fr t = fr0 t)
  {i : Nat} (hi : i < ops.size) (hni : i ∉ runsOf done) {slots : List Nat} (hr : chkReads B ops i slots false = true) (v : V) : AgreeOn slots (mixF ops (bef B i) (fr.put (dstAt ops i) v) fr0) fr := by
 intro t ht
 by_cases h : ∃ j, j < ops.size ∧ dstAt ops j = some t ∧ bef B i j = true
 ·obtain ⟨j, hj, hd, hb⟩ := h
  rw [mix_yes hj hd hb]
  exact put_other hok hj hi (reads_spec hr ht hj hd).1 hd v
 ·have hno : ∀ j, j < ops.size → dstAt ops j = some t → bef B i j = false := fun j hj hd => by
   cases hb : bef B i j with
   | false => rfl
   | true => exact absurd ⟨j, hj, hd, hb⟩ h
  rw [mix_no hno]
  refine (unw t fun k hk hd => ?_).symm
  have hkl := hok.lt k (hdq k hk)
  obtain ⟨_, hh⟩ := reads_spec hr ht hkl hd
  rcases hh with hh | ⟨_, hh⟩
  ·rw [hno k hkl hd] at hh; cases hh
  ·exact hni (ord k hk i hh hi)
end
end Go.VM
namespace Go.VM
open Go Go.RowKit
section
variable {D : List Deferred} {P : Program} {w0 : World} {n : Nat} {ops : Array Oper} {B : List Nat} {q : Seq} {fr0 : Fr} {K : Fr → St → Prop} {Kp : V → St → Prop} {g0 : G}
theorem pend_cons_run {i k : Nat} {oc : OpC} {rest : Seq} (h : isEff (.run oc) = false) (hp : pend ((i, .run oc) :: rest) k = true) : pend rest k = true := by
 unfold pend at hp ⊢
 rw [List.takeWhile_cons, if_pos (by simp [h])] at hp
 simpa [isRun] using hp
theorem pend_cons_chk {i k d : Nat} {g : Option (Nat × Bool)} {fi : FI} {rest : Seq} (hne : k ≠ i) (hp : pend ((i, .chk d g fi) :: rest) k = true) : pend rest k = true := by
 unfold pend at hp ⊢
 rw [List.takeWhile_cons, if_pos (by simp [isEff])] at hp
 simp only [List.any_cons, Bool.or_eq_true, Bool.and_eq_true, beq_iff_eq] at hp
 rcases hp with hp | hp
 ·exact absurd hp.1.symm hne
 ·exact hp
theorem chkOp_dst {i : Nat} {o : Oper} {oc : OpC} (ho : ops[i]? = some o) (h : chkOp P n ops o oc = true) : oc.dst = dstAt ops i := by
 simp only [chkOp, Bool.and_eq_true] at h
 rw [← chkDst_eq h.1.1]
 simp [dstAt, ho]
theorem DInv.step {L : Nat → Bool} {done rest : Seq} {g : G} {fr : Fr} {S : St} {a : Act} {w : World} {i : Nat} {x : Item} (hok : DOk P n ops B q) (h : DInv D P w0 n ops B q fr0 K Kp g0 L done ((i, x) :: rest) g fr S a w) (hx : isEff x = false) :
  ∃ fr', DInv D P w0 n ops B q fr0 K Kp g0 L (done ++ [(i, x)]) rest g fr' S a w := by
 have hdq : ∀ k ∈ runsOf done, k ∈ runsOf q := fun k hk => by rw [h.seq, runsOf_append]; exact List.mem_append_left _ hk
 have hc := h.chk
 simp only [chkSeq, Bool.and_eq_true] at hc
 obtain ⟨hc1, hc2⟩ := hc
 cases x with
 | run oc =>
  simp only [Bool.and_eq_true] at hc1
  obtain ⟨⟨⟨⟨⟨c1, c2⟩, c3⟩, c4⟩, c5⟩, c6⟩ := hc1
  split at c1 <;> (try (cases c1; done))
  rename_i o ho
  simp only [Bool.and_eq_true] at c1
  obtain ⟨c11, c12⟩ := c1
  have hdst := chkOp_dst ho c11
  have hi : i < ops.size := (Array.getElem?_eq_some_iff.1 ho).1
  have hni : i ∉ runsOf done := by simpa using c3
  obtain ⟨fi, hfi⟩ : ∃ fi, oc.i = .f fi := by
   obtain ⟨d, g', ii⟩ := oc
   cases ii with
   | f fi => exact ⟨fi, rfl⟩
   | e ei => simp [isEff] at hx
  have hLi : L i = false := by
   cases hL : L i with
   | false => rfl
   | true => exact absurd (h.sub i hL) hni
  have hform := h.form
  simp only [List.map_cons, wItems, wItem] at hform
  have hreads : AgreeOn (gSlots oc.g) (mixF ops (bef B i) fr fr0) fr ∧ AgreeOn (opSlots oc) (mixF ops (bef B i) fr fr0) fr := by
   have := fun (v : V) => agree_head hok hdq h.ord h.unw hi hni c12 v
   have hv := this (match dstAt ops i with | some d => fr d | none => .poison)
   have hself : fr.put (dstAt ops i) (match dstAt ops i with | some d => fr d | none => .poison) = fr := by
    cases dstAt ops i with
    | none => rfl
    | some d => funext t; simp only [Fr.put]; split <;> simp_all
   rw [hself] at hv
   exact ⟨fun t ht => hv t (by simp [opSlots, ht]), hv⟩
  have main : ∀ v, (wItems (RSim P w0) (rest.map (·.2)) (fr.put (dstAt ops i) v) S K Kp) →
    ((wanted fr oc.g = some true ∧ aF fi fr S = some v) ∨ (wanted fr oc.g = some false ∧ v = .tup [])) → DInv D P w0 n ops B q fr0 K Kp g0 L (done ++ [(i, .run oc)]) rest g (fr.put (dstAt ops i) v) S a w := by
   intro v hk hv
   have hagree := agree_head hok hdq h.ord h.unw hi hni c12 v
   have hg : AgreeOn (gSlots oc.g) (mixF ops (bef B i) (fr.put (dstAt ops i) v) fr0) fr := fun t ht => hagree t (by simp [opSlots, ht])
   have hs : AgreeOn fi.slots (mixF ops (bef B i) (fr.put (dstAt ops i) v) fr0) fr := fun t ht => hagree t (by simp [opSlots, hfi, I.slots, ht])
   have hself : ∀ d, oc.dst = some d → (fr.put (dstAt ops i) v) d = v := fun d hd => by
    rw [← hdst, hd]; simp [Fr.put]
   refine ⟨by rw [h.seq]; simp, hc2, h.le, h.W, h.defers, hk, fun k hk => ?_, fun y hy hye => ?_, ?_, fun t ht => ?_, fun k hk j hb hj => ?_, fun k hk hLk => ?_⟩
   ·rw [runsOf_append]; exact List.mem_append_left _ (h.sub k hk)
   ·rcases List.mem_append.1 hy with hy | hy
    ·exact h.eff y hy hye
    ·simp at hy; subst hy; rw [hx] at hye; cases hye
   ·have : mixF ops L (fr.put (dstAt ops i) v) fr0 = mixF ops L fr fr0 := by
     funext t
     by_cases hh : ∃ j, j < ops.size ∧ dstAt ops j = some t ∧ L j = true
     ·obtain ⟨j, hj, hd, hb⟩ := hh
      rw [mix_yes hj hd hb, mix_yes hj hd hb]
      refine put_other hok hj hi (fun e => ?_) hd v
      subst e; rw [hLi] at hb; cases hb
     ·have hno : ∀ j, j < ops.size → dstAt ops j = some t → L j = false := fun j hj hd => by
       cases hb : L j with
       | false => rfl
       | true => exact absurd ⟨j, hj, hd, hb⟩ hh
      rw [mix_no hno, mix_no hno]
    rw [this]
    exact h.frame
   ·have h1 : dstAt ops i ≠ some t := ht i (by rw [runsOf_append, runsOf_run]; simp)
    have h2 : (fr.put (dstAt ops i) v) t = fr t := by
     cases hd : dstAt ops i with
     | none => rfl
     | some d =>
      simp only [Fr.put]
      rw [if_neg]
      rintro rfl
      exact h1 hd
    rw [h2]
    exact h.unw t fun k hk => ht k (by rw [runsOf_append]; exact List.mem_append_left _ hk)
   ·rw [runsOf_append, runsOf_run] at hk ⊢
    rcases List.mem_append.1 hk with hk | hk
    ·exact List.mem_append_left _ (h.ord k hk j hb hj)
    ·simp [runsOf] at hk
     subst hk
     have hjq := hok.all j hj
     rw [h.seq, runsOf_append, runsOf_run] at hjq
     rcases List.mem_append.1 hjq with hjq | hjq
     ·exact List.mem_append_left _ hjq
     ·rcases List.mem_cons.1 hjq with rfl | hjq
      ·exact List.mem_append_right _ (by simp)
      ·exfalso
       obtain ⟨oc', hmem⟩ := mem_runsOf.1 hjq
       have := List.all_eq_true.1 c2 _ hmem
       simp [isRun, hb] at this
   ·rw [runsOf_append, runsOf_run] at hk
    rcases List.mem_append.1 hk with hk | hk
    ·rcases h.ev k hk hLk with he | he
     ·exact .inl (EvalTo.put hok hdq h.ord hk hi hni v he)
     ·exact .inr (Waits.put hok hdq h.ord hk hi hni v (pend_cons_run hx he.1) he)
    ·simp [runsOf] at hk
     subst hk
     refine .inl ⟨oc, fi, o, ho, hfi, c11, c12, fun hr => ⟨oc, fi, by simp, hfi, hr⟩, ?_⟩
     rcases hv with ⟨hv1, hv2⟩ | ⟨hv1, hv2⟩
     ·exact .inl ⟨by rw [wanted_congr hg]; exact hv1, v, by rw [aF_congr S hs]; exact hv2, hself⟩
     ·exact .inr ⟨by rw [wanted_congr hg]; exact hv1, fun d hd => by rw [hself d hd, hv2]⟩
  split at hform <;> (try (cases hform; done))
  ·rename_i hw
   rw [hfi] at hform
   simp only at hform
   split at hform <;> (try (cases hform; done))
   rename_i v hv
   rw [hdst] at hform
   exact ⟨_, main v hform (.inl ⟨hw, hv⟩)⟩
  ·rename_i hw
   rw [hdst] at hform
   exact ⟨_, main (.tup []) hform (.inr ⟨hw, rfl⟩)⟩
 | chk d gd fi =>
  simp only [Bool.and_eq_true] at hc1
  obtain ⟨c1, c2⟩ := hc1
  split at c2 <;> (try (cases c2; done))
  rename_i o ho
  simp only [Bool.and_eq_true] at c2
  obtain ⟨c3, c4⟩ := c2
  obtain ⟨y, hyd, hy⟩ := List.any_eq_true.1 c1
  simp only [Bool.and_eq_true, beq_iff_eq] at hy
  obtain ⟨hy1, hy2⟩ := hy
  obtain ⟨yi, yx⟩ := y
  simp only at hy1 hy2
  subst hy1
  have hform := h.form
  simp only [List.map_cons, wItems, wItem] at hform
  have hreads : AgreeOn (opSlots ⟨some d, gd, .f fi⟩) (mixF ops (bef B yi) fr fr0) fr := by
   intro t ht
   by_cases hh : ∃ j, j < ops.size ∧ dstAt ops j = some t
   ·obtain ⟨j, hj, hd⟩ := hh
    obtain ⟨_, hb⟩ := reads_spec c4 ht hj hd
    rcases hb with hb | ⟨hb, _⟩
    ·exact mix_yes hj hd hb
    ·cases hb
   ·rw [mix_no (fun j hj hd => absurd ⟨j, hj, hd⟩ hh)]
    exact (h.unw t fun k hk hd => hh ⟨k, hok.lt k (hdq k hk), hd⟩).symm
  have hg : AgreeOn (gSlots gd) (mixF ops (bef B yi) fr fr0) fr := fun t ht => hreads t (by simp [opSlots, ht])
  have hs : AgreeOn fi.slots (mixF ops (bef B yi) fr fr0) fr := fun t ht => hreads t (by simp [opSlots, I.slots, ht])
  have hruns : runsOf (done ++ [(yi, .chk d gd fi)]) = runsOf done := by rw [runsOf_append, runsOf_chk]; simp [runsOf]
  have c3' := c3
  simp only [chkOp, Bool.and_eq_true] at c3'
  have main : ∀ (hk : wItems (RSim P w0) (rest.map (·.2)) fr S K Kp) (hv : (wanted fr gd = some true ∧ aF fi fr S = some (fr d)) ∨ wanted fr gd = some false), DInv D P w0 n ops B q fr0 K Kp g0 L (done ++ [(yi, .chk d gd fi)]) rest g fr S a w := by
   intro hk hv
   refine ⟨by rw [h.seq]; simp, hc2, h.le, h.W, h.defers, hk, fun k hk => ?_, fun y hy hye => ?_, h.frame, fun t ht => ?_, fun k hk j hb hj => ?_, fun k hk hLk => ?_⟩
   ·rw [hruns]; exact h.sub k hk
   ·rcases List.mem_append.1 hy with hy | hy
    ·exact h.eff y hy hye
    ·simp at hy; subst hy; rw [hx] at hye; cases hye
   ·rw [hruns] at ht; exact h.unw t ht
   ·rw [hruns] at hk ⊢; exact h.ord k hk j hb hj
   ·rw [hruns] at hk
    have lift : ∀ k', EvalTo P n ops B done fr0 k' fr S → EvalTo P n ops B (done ++ [(yi, .chk d gd fi)]) fr0 k' fr S := fun k' ⟨oc, fi', o', h1, h2, h3, h4, h5, h6⟩ =>
     ⟨oc, fi', o', h1, h2, h3, h4, fun hr => by obtain ⟨a1, a2, a3, a4⟩ := h5 hr; exact ⟨a1, a2, List.mem_append_left _ a3, a4⟩, h6⟩
    rcases h.ev k hk hLk with he | he
    ·exact .inl (lift k he)
    ·by_cases hke : k = yi
     ·subst hke
      rcases hv with ⟨hv1, hv2⟩ | hv1
      ·refine .inl ⟨⟨some d, gd, .f fi⟩, fi, o, ho, rfl, c3, ?_, fun hr => ?_, .inl ⟨by rw [wanted_congr hg]; exact hv1, fr d, by rw [aF_congr S hs]; exact hv2, fun d' hd' => by injection hd' with hd'; rw [hd']⟩⟩
       ·unfold chkReads at c4 ⊢
        rw [List.all_eq_true] at c4 ⊢
        intro t ht
        have := c4 t ht
        rw [List.all_eq_true] at this ⊢
        intro j hj
        have := this j hj
        split
        ·rename_i hd
         rw [if_pos hd] at this
         simp only [Bool.and_eq_true, Bool.not_true, Bool.false_and, Bool.or_false] at this
         simp [this.1, this.2]
        ·rfl
       ·cases yx with
        | chk => cases hy2
        | run ocy =>
         obtain ⟨d1, g1, i1⟩ := ocy
         cases i1 with
         | e => cases hy2
         | f fi' => exact ⟨_, fi', List.mem_append_left _ hyd, rfl, hy2⟩
      ·exfalso
       obtain ⟨_, o', og, h1, h2, h3⟩ := he
       rw [ho] at h1; injection h1 with h1; subst h1
       have := chkG_one h2 c3'.1.2
       subst this
       rw [wanted_congr hg, hv1] at h3
       cases h3
     ·exact .inr ⟨pend_cons_chk hke he.1, he.2⟩
  split at hform <;> (try (cases hform; done))
  ·rename_i hw
   exact ⟨fr, main hform.2 (.inl ⟨hw, hform.1⟩)⟩
  ·rename_i hw
   exact ⟨fr, main hform (.inr hw)⟩
theorem DInv.peel (hok : DOk P n ops B q) : ∀ (m : Nat) {L : Nat → Bool} {done rest : Seq} {g : G} {fr : Fr} {S : St} {a : Act} {w : World}, rest.length ≤ m → DInv D P w0 n ops B q fr0 K Kp g0 L done rest g fr S a w →
  ∃ done' rest' fr', DInv D P w0 n ops B q fr0 K Kp g0 L done' rest' g fr' S a w ∧ (rest' = [] ∨ ∃ y r, rest' = y :: r ∧ isEff y.2 = true)
 | m, L, done, [], g, fr, S, a, w, _, h => ⟨done, [], fr, h, .inl rfl⟩
 | 0, L, done, _ :: _, g, fr, S, a, w, hl, h => by simp at hl
 | m + 1, L, done, (i, x) :: rest, g, fr, S, a, w, hl, h => by
  cases hx : isEff x with
  | true => exact ⟨done, (i, x) :: rest, fr, h, .inr ⟨(i, x), rest, rfl, hx⟩⟩
  | false =>
   obtain ⟨fr', h'⟩ := h.step hok hx
   exact DInv.peel hok m (by simpa using hl) h'
end
end Go.VM
namespace Go.VM
open Go Go.RowKit
section
variable {D : List Deferred} {P : Program} {w0 : World} {n : Nat} {ops : Array Oper} {B : List Nat} {q : Seq} {fr0 : Fr} {K : Fr → St → Prop} {Kp : V → St → Prop} {g0 : G}
def lst (l : Array Bool) (i : Nat) : Bool := l.getD i false
def upL (L : Nat → Bool) (i : Nat) : Nat → Bool := fun j => if j = i then true else L j
def leftN (ops : Array Oper) (L : Nat → Bool) : Nat := ((List.range ops.size).filter fun i => !L i).length
theorem lst_set {l : Array Bool} {i : Nat} (hi : i < l.size) : lst (l.setIfInBounds i true) = upL (lst l) i := by
 funext j
 unfold lst upL
 by_cases h : j = i
 ·subst h; simp [Array.getElem?_setIfInBounds, hi]
 ·rw [if_neg h]; simp [Array.getElem?_setIfInBounds_ne (Ne.symm h)]
theorem left_up {L : Nat → Bool} {i : Nat} (hi : i < ops.size) (hL : L i = false) : leftN ops (upL L i) < leftN ops L := by
 unfold leftN
 have hsub : ∀ l : List Nat, (l.filter fun j => !upL L i j).length ≤ (l.filter fun j => !L j).length := fun l => by
  induction l with
  | nil => simp
  | cons x r ih =>
   simp only [List.filter_cons]
   by_cases hx : x = i
   ·subst hx
    have e1 : upL L x x = true := by simp [upL]
    rw [e1, hL]
    simp only [Bool.not_true, Bool.not_false, Bool.false_eq_true, if_false, if_true, List.length_cons]
    omega
   ·have : upL L i x = L x := by simp [upL, hx]
    rw [this]
    split <;> simp <;> omega
 have hstrict : ∀ l : List Nat, i ∈ l → (l.filter fun j => !upL L i j).length < (l.filter fun j => !L j).length := fun l hl => by
  induction l with
  | nil => cases hl
  | cons x r ih =>
   simp only [List.filter_cons]
   by_cases hx : x = i
   ·subst hx
    have e1 : upL L x x = true := by simp [upL]
    rw [e1, hL]
    simp only [Bool.not_true, Bool.not_false, Bool.false_eq_true, if_false, if_true, List.length_cons]
    exact Nat.lt_succ_of_le (hsub r)
   ·have : upL L i x = L x := by simp [upL, hx]
    rw [this]
    rcases List.mem_cons.1 hl with rfl | hl
    ·exact absurd rfl hx
    ·have := ih hl
     split <;> simp <;> omega
 exact hstrict _ (by simpa using hi)
theorem ready_iff {l : Array Bool} (hl : l.size = ops.size) {i : Nat} : i ∈ Region.ready .any ops l ↔ i < ops.size ∧ lst l i = false ∧ ∃ o, ops[i]? = some o ∧ ∀ d ∈ depsOf o, lst l d = true := by
 unfold Region.ready
 rw [List.mem_filter]
 constructor
 ·rintro ⟨h1, h2⟩
  have hi : i < ops.size := by simpa using h1
  simp only [Bool.and_eq_true, Bool.not_eq_true'] at h2
  obtain ⟨h2, h3⟩ := h2
  have ho : ops[i]? = some ops[i] := Array.getElem?_eq_getElem hi
  rw [ho] at h3
  simp only [Option.map_some, Option.getD_some] at h3
  refine ⟨hi, ?_, ops[i], ho, fun d hd => ?_⟩
  ·unfold lst
   have : i < l.size := by omega
   simp [this] at h2 ⊢
   exact h2
  ·unfold depsOf at hd
   obtain ⟨e, he, hde⟩ := List.mem_filterMap.1 hd
   have := Array.all_eq_true'.1 h3 e (by simpa using he)
   split at hde <;> (try (cases hde; done))
   rename_i hb
   injection hde with hde
   simp only [hb, Bool.not_true, Bool.false_or] at this
   rw [← hde]
   exact this
 ·rintro ⟨hi, h2, o, ho, h3⟩
  refine ⟨by simpa using hi, ?_⟩
  simp only [Bool.and_eq_true, Bool.not_eq_true']
  refine ⟨?_, ?_⟩
  ·unfold lst at h2
   have : i < l.size := by omega
   simp [this] at h2 ⊢
   exact h2
  ·rw [ho]
   simp only [Option.map_some, Option.getD_some]
   rw [Array.all_eq_true']
   intro e he
   cases hb : Region.binds .any e with
   | false => rfl
   | true =>
    simp only [Bool.not_true, Bool.false_or]
    exact h3 e.on (List.mem_filterMap.2 ⟨e, by simpa using he, by simp [hb]⟩)
def Down (ops : Array Oper) (L : Nat → Bool) : Prop := ∀ i o, ops[i]? = some o → L i = true → ∀ d ∈ depsOf o, L d = true
theorem Down.bef {L : Nat → Bool} (hok : DOk P n ops B q) (h : Down ops L) {i : Nat} {o : Oper} (ho : ops[i]? = some o) (hd : ∀ d ∈ depsOf o, L d = true) {j : Nat} (hb : bef B i j = true) : L j = true := by
 rw [hok.B] at hb
 exact bef_listed (L := L) (fun i o ho hL d hd => h i o ho hL d hd) i o ho hd j hb
theorem mix_up {L : Nat → Bool} {fr : Fr} {i : Nat} (hi : i < ops.size) : ∀ (hok : DOk P n ops B q) (v : V) (hv : ∀ d, dstAt ops i = some d → v = fr d), mixF ops (upL L i) fr fr0 = (mixF ops L fr fr0).put (dstAt ops i) v := by
 intro hok v hv
 funext t
 cases hd : dstAt ops i with
 | none =>
  simp only [Fr.put]
  by_cases hh : ∃ j, j < ops.size ∧ dstAt ops j = some t ∧ L j = true
  ·obtain ⟨j, hj, hdj, hb⟩ := hh
   rw [mix_yes hj hdj hb, mix_yes hj hdj (by simp [upL, hb])]
  ·have hno : ∀ j, j < ops.size → dstAt ops j = some t → L j = false := fun j hj hd => by
    cases hb : L j with
    | false => rfl
    | true => exact absurd ⟨j, hj, hd, hb⟩ hh
   rw [mix_no hno, mix_no]
   intro j hj hdj
   have : j ≠ i := fun e => by subst e; rw [hd] at hdj; cases hdj
   simp [upL, this, hno j hj hdj]
 | some d =>
  simp only [Fr.put]
  by_cases ht : t = d
  ·subst ht
   rw [if_pos rfl, mix_yes hi hd (by simp [upL]), hv t hd]
  ·rw [if_neg ht]
   by_cases hh : ∃ j, j < ops.size ∧ dstAt ops j = some t ∧ L j = true
   ·obtain ⟨j, hj, hdj, hb⟩ := hh
    rw [mix_yes hj hdj hb, mix_yes hj hdj (by simp [upL, hb])]
   ·have hno : ∀ j, j < ops.size → dstAt ops j = some t → L j = false := fun j hj hd => by
     cases hb : L j with
     | false => rfl
     | true => exact absurd ⟨j, hj, hd, hb⟩ hh
    rw [mix_no hno, mix_no]
    intro j hj hdj
    have : j ≠ i := fun e => by subst e; rw [hd] at hdj; injection hdj with hdj; exact ht hdj.symm
    simp [upL, this, hno j hj hdj]
theorem sim_draw (hok : DOk P n ops B q) {Q : CPost} (hK : ∀ fr S, K fr S → Q .normal fr S) (hKp : ∀ v S, Kp v S → Q (.panic v) fr0 S) : ∀ (fuel : Nat) {l : Array Bool} {done rest : Seq} {g : G} {fr : Fr} {S : St} {a : Act} {w : World},
  l.size = ops.size → leftN ops (lst l) ≤ fuel → Down ops (lst l) → DInv D P w0 n ops B q fr0 K Kp g0 (lst l) done rest g fr S a w → (rest = [] ∨ ∃ y r, rest = y :: r ∧ isEff y.2 = true) →
  wpAny P .any ops (QRel D w0 n g0 Q) fuel l a w := by
 -- the end
 have fin : ∀ {l : Array Bool} {done rest : Seq} {g : G} {fr : Fr} {S : St} {a : Act} {w : World}, l.size = ops.size → DInv D P w0 n ops B q fr0 K Kp g0 (lst l) done rest g fr S a w → (rest = [] ∨ ∃ y r, rest = y :: r ∧ isEff y.2 = true) →
   Region.ready .any ops l = [] → QRel D w0 n g0 Q .normal a w := by
  intro l done rest g fr S a w hl h hb hr
  have hall' : ∀ m i, (runsOf q).idxOf i = m → i < ops.size → lst l i = true := by
   intro m
   induction m using Nat.strongRecOn with
   | _ m ih =>
    intro i him hi
    subst him
    cases hL : lst l i with
    | true => rfl
    | false =>
     exfalso
     have ho : ops[i]? = some ops[i] := Array.getElem?_eq_getElem hi
     have : i ∈ Region.ready .any ops l := (ready_iff hl).2 ⟨hi, hL, ops[i], ho, fun d hd => ih _ (hok.down i _ ho d hd) d rfl (hok.lt d (by have h1 := hok.down i _ ho d hd; have h2 := List.idxOf_lt_length_iff.2 (hok.all i hi); exact List.idxOf_lt_length_iff.1 (by omega)))⟩
     rw [hr] at this
     cases this
  have hall : ∀ i, i < ops.size → lst l i = true := fun i hi => hall' _ i rfl hi
  have hrest : rest = [] := by
   rcases hb with hb | ⟨y, r, rfl, hy⟩
   ·exact hb
   ·exfalso
    obtain ⟨i, x⟩ := y
    have hc := h.chk
    simp only [chkSeq, Bool.and_eq_true] at hc
    cases x with
    | chk => simp [isEff] at hy
    | run oc =>
     have hc1 := hc.1
     simp only [Bool.and_eq_true] at hc1
     obtain ⟨⟨⟨⟨⟨c1, c2⟩, c3⟩, c4⟩, c5⟩, c6⟩ := hc1
     split at c1 <;> (try (cases c1; done))
     rename_i o ho
     have hi : i < ops.size := (Array.getElem?_eq_some_iff.1 ho).1
     have := h.sub i (hall i hi)
     simp at c3
     exact c3 this
  subst hrest
  have hform := h.form
  simp only [List.map_nil, wItems] at hform
  refine ⟨h.defers, g, fr, S, h.le, h.W, ?_, hK _ _ hform⟩
  have : mixF ops (lst l) fr fr0 = fr := by
   funext t
   by_cases hh : ∃ j, j < ops.size ∧ dstAt ops j = some t
   ·obtain ⟨j, hj, hd⟩ := hh
    exact mix_yes hj hd (hall j hj)
   ·rw [mix_no (fun j hj hd => absurd ⟨j, hj, hd⟩ hh)]
    refine (h.unw t fun k hk hd => hh ⟨k, hok.lt k ?_, hd⟩).symm
    rw [h.seq, runsOf_append]; exact List.mem_append_left _ hk
  rw [← this]
  exact h.frame
 intro fuel
 induction fuel with
 | zero =>
  intro l done rest g fr S a w hl hleft hdown h hb
  have hr : Region.ready .any ops l = [] := by
   rw [List.eq_nil_iff_forall_not_mem]
   intro i hi
   obtain ⟨h1, h2, _⟩ := (ready_iff hl).1 hi
   have := left_up (L := lst l) h1 h2
   omega
  exact ⟨hr, fin hl h hb hr⟩
 | succ fuel ih =>
  intro l done rest g fr S a w hl hleft hdown h hb
  refine ⟨fin hl h hb, fun i hi => ?_⟩
  obtain ⟨hil, hLi, o, ho, hdeps⟩ := (ready_iff hl).1 hi
  have hbef : ∀ j, bef B i j = true → lst l j = true := fun j hj => hdown.bef hok ho hdeps hj
  have hdq : ∀ k ∈ runsOf done, k ∈ runsOf q := fun k hk => by rw [h.seq, runsOf_append]; exact List.mem_append_left _ hk
  have hl' : (l.setIfInBounds i true).size = ops.size := by simpa using hl
  have hset : lst (l.setIfInBounds i true) = upL (lst l) i := lst_set (by omega)
  have hleft' : leftN ops (lst (l.setIfInBounds i true)) ≤ fuel := by
   rw [hset]
   have := left_up (L := lst l) hil hLi
   omega
  have hdown' : Down ops (lst (l.setIfInBounds i true)) := by
   rw [hset]
   intro k o' ho' hk d hd
   unfold upL at hk ⊢
   split
   ·rfl
   ·split at hk
    ·rename_i hki; subst hki
     rw [ho] at ho'; injection ho' with ho'; subst ho'
     exact hdeps d hd
    ·exact hdown k o' ho' hk d hd
  -- what an operation looks at is in the mixed frame as in its own
  have hmix : ∀ {slots : List Nat}, chkReads B ops i slots false = true → AgreeOn slots (mixF ops (lst l) fr fr0) (mixF ops (bef B i) fr fr0) := by
   intro slots hr t ht
   by_cases hh : ∃ j, j < ops.size ∧ dstAt ops j = some t ∧ bef B i j = true
   ·obtain ⟨j, hj, hd, hb'⟩ := hh
    rw [mix_yes hj hd (hbef j hb'), mix_yes hj hd hb']
   ·have hno : ∀ j, j < ops.size → dstAt ops j = some t → bef B i j = false := fun j hj hd => by
     cases hb' : bef B i j with
     | false => rfl
     | true => exact absurd ⟨j, hj, hd, hb'⟩ hh
    rw [mix_no hno, mix_no]
    intro j hj hd
    cases hLj : lst l j with
    | false => rfl
    | true =>
     exfalso
     obtain ⟨_, hb'⟩ := reads_spec hr ht hj hd
     rcases hb' with hb' | ⟨_, hb'⟩
     ·rw [hno j hj hd] at hb'; cases hb'
     ·have hoj : ops[j]? = some ops[j] := Array.getElem?_eq_getElem hj
      have := hdown.bef hok hoj (hdown j _ hoj hLj) hb'
      rw [hLi] at this; cases this
  unfold wpOp
  simp only [ho]
  by_cases hid : i ∈ runsOf done
  ·-- a quiet one that is told already
   have hevi : EvalTo P n ops B done fr0 i fr S := by
    rcases h.ev i hid hLi with he | he
    ·exact he
    ·exfalso
     have hp := he.1
     unfold pend at hp
     rcases hb with rfl | ⟨y, r, rfl, hy⟩
     ·simp at hp
     ·rw [List.takeWhile_cons, if_neg (by simp [hy])] at hp
      simp at hp
   obtain ⟨oc, fi, o', h1, h2, h3, h4, h5, h6⟩ := hevi
   rw [ho] at h1; injection h1 with h1; subst h1
   have hdst := chkOp_dst ho h3
   have h3' := h3
   simp only [chkOp, Bool.and_eq_true] at h3'
   obtain ⟨⟨d1, d2⟩, d3⟩ := h3'
   have hag := hmix h4
   have hg : AgreeOn (gSlots oc.g) (mixF ops (lst l) fr fr0) (mixF ops (bef B i) fr fr0) := fun t ht => hag t (by simp [opSlots, ht])
   have hs : AgreeOn fi.slots (mixF ops (lst l) fr fr0) (mixF ops (bef B i) fr fr0) := fun t ht => hag t (by simp [opSlots, h2, I.slots, ht])
   -- the invariant behind it
   have next : ∀ (v : V) (u : Value), (∀ d, oc.dst = some d → fr d = v) → RelV g v u → wpAny P .any ops (QRel D w0 n g0 Q) fuel (l.setIfInBounds i true) (a.put o.dst u) w := by
    intro v u hv hu
    refine ih hl' hleft' hdown' (done := done) (rest := rest) (g := g) (fr := fr) (S := S) ⟨h.seq, h.chk, h.le, h.W, by rw [put_defers]; exact h.defers, h.form, fun k hk => ?_, fun x hx he => ?_, ?_, h.unw, h.ord, fun k hk hLk => ?_⟩ hb
    ·rw [hset] at hk
     unfold upL at hk
     split at hk
     ·rename_i e; rw [e]; exact hid
     ·exact h.sub k hk
    ·rw [hset]
     unfold upL
     split
     ·rfl
     ·exact h.eff x hx he
    ·rw [hset, mix_up hil hok v (fun d hd => by rw [← hdst] at hd; exact (hv d hd).symm), ← hdst, chkDst_eq d1]
     have := chkDst_eq d1
     rw [← this]
     exact h.frame.put hu
    ·rw [hset] at hLk
     unfold upL at hLk
     split at hLk
     ·cases hLk
     ·exact h.ev k hk hLk
   rcases h6 with ⟨a1, v, a2, a3⟩ | ⟨a1, a2⟩
   ·have hw : Region.wanted o (yielded ops a.tmps) = true := wanted_rel h.frame d2 (by rw [wanted_congr hg]; exact a1)
    rw [if_pos hw]
    have d3' : chkFI P n o.op fi = true := by rw [h2] at d3; exact d3
    obtain ⟨u, hrun, hu⟩ := simFI h.W h.frame d3' (v := v) (by rw [aF_congr S hs]; exact a2)
    refine .inl ?_
    unfold Oper.wp
    rw [hrun]
    exact next v u a3 hu
   ·have hw : Region.wanted o (yielded ops a.tmps) = false := wanted_rel h.frame d2 (by rw [wanted_congr hg]; exact a1)
    rw [if_neg (by rw [hw]; simp)]
    exact next (.tup []) undef a2 ⟨[], rfl, rfl⟩
  ·-- the next one that acts
   have hiq := hok.all i hil
   rw [h.seq, runsOf_append] at hiq
   have hir : i ∈ runsOf rest := by
    rcases List.mem_append.1 hiq with hh | hh
    ·exact absurd hh hid
    ·exact hh
   rcases hb with rfl | ⟨y, r, rfl, hy⟩
   ·simp [runsOf] at hir
   obtain ⟨e, x⟩ := y
   cases x with
   | chk => simp [isEff] at hy
   | run oc =>
    have hc := h.chk
    simp only [chkSeq, Bool.and_eq_true] at hc
    obtain ⟨⟨⟨⟨⟨⟨c1, c2⟩, c3⟩, c4⟩, c5⟩, c6⟩, hcrest⟩ := hc
    split at c1 <;> (try (cases c1; done))
    rename_i oe hoe
    simp only [Bool.and_eq_true] at c1
    obtain ⟨c11, c12⟩ := c1
    have hned : e ∉ runsOf done := by simpa using c3
    have hei : i = e := by
     rw [runsOf_run] at hir
     rcases List.mem_cons.1 hir with hh | hh
     ·exact hh
     ·exfalso
      obtain ⟨oc', hmem⟩ := mem_runsOf.1 hh
      -- it stands behind one that acts: that one comes ahead of it
      have key : ∀ (rest : Seq) (before : Seq), chkSeq P n B ops before rest = true → (i, Item.run oc') ∈ rest → ∀ y ∈ before, isEff y.2 = true → bef B i y.1 = true := by
       intro rest
       induction rest with
       | nil => intro before _ hm; cases hm
       | cons z zs ihz =>
        intro before hcz hm y hyb hye
        obtain ⟨zi, zx⟩ := z
        simp only [chkSeq, Bool.and_eq_true] at hcz
        obtain ⟨hcz1, hcz2⟩ := hcz
        rcases List.mem_cons.1 hm with hm | hm
        ·injection hm with e1 e2
         subst e1; subst e2
         simp only [Bool.and_eq_true] at hcz1
         have := List.all_eq_true.1 hcz1.1.2 y hyb
         simpa [hye] using this
        ·exact ihz _ hcz2 hm y (List.mem_append_left _ hyb) hye
      have := key r (done ++ [(e, .run oc)]) hcrest hmem (e, .run oc) (by simp) hy
      exact hned (h.sub e (hbef e this))
    subst hei
    rw [ho] at hoe; injection hoe with hoe; subst hoe
    have hdst := chkOp_dst ho c11
    have c11' := c11
    simp only [chkOp, Bool.and_eq_true] at c11'
    obtain ⟨⟨d1, d2⟩, d3⟩ := c11'
    obtain ⟨ei, hei⟩ : ∃ ei, oc.i = .e ei := by
     obtain ⟨d, g', ii⟩ := oc
     cases ii with
     | e ei => exact ⟨ei, rfl⟩
     | f fi => simp [isEff] at hy
    have hself : ∀ v : V, AgreeOn (opSlots oc) (mixF ops (bef B i) (fr.put (dstAt ops i) v) fr0) fr := fun v => agree_head hok hdq h.ord h.unw hil hned c12 v
    have hag0 : AgreeOn (opSlots oc) (mixF ops (bef B i) fr fr0) fr := by
     have hv := hself (match dstAt ops i with | some d => fr d | none => .poison)
     have hs : fr.put (dstAt ops i) (match dstAt ops i with | some d => fr d | none => .poison) = fr := by
      cases dstAt ops i with
      | none => rfl
      | some d => funext t; simp only [Fr.put]; split <;> simp_all
     rw [hs] at hv
     exact hv
    have hag : AgreeOn (opSlots oc) fr (mixF ops (lst l) fr fr0) := fun t ht => by
     rw [hmix c12 t ht, hag0 t ht]
    have hform := h.form
    simp only [List.map_cons, wItems, wItem] at hform
    -- the invariant behind it
    have next : ∀ (g' : G) (v : V) (S' : St) (u : Value) (w' : World), g.le g' → RelW w0 g' S' w' → RelV g' v u → wItems (RSim P w0) (r.map (·.2)) (fr.put (dstAt ops i) v) S' K Kp →
      (∀ k ∈ runsOf done, lst (l.setIfInBounds i true) k = false → EvalTo P n ops B (done ++ [(i, .run oc)]) fr0 k (fr.put (dstAt ops i) v) S' ∨ Waits n ops B fr0 r k (fr.put (dstAt ops i) v)) →
      wpAny P .any ops (QRel D w0 n g0 Q) fuel (l.setIfInBounds i true) (a.put o.dst u) w' := by
     intro g' v S' u w' hle' hW' hu hk hev
     have hinv : DInv D P w0 n ops B q fr0 K Kp g0 (lst (l.setIfInBounds i true)) (done ++ [(i, .run oc)]) r g' (fr.put (dstAt ops i) v) S' (a.put o.dst u) w' := by
      refine ⟨by rw [h.seq]; simp, hcrest, h.le.trans hle', hW', by rw [put_defers]; exact h.defers, hk, fun k hk => ?_, fun x hx he => ?_, ?_, fun t ht => ?_, fun k hk j hb' hj => ?_, fun k hk hLk => ?_⟩
      ·rw [hset] at hk
       unfold upL at hk
       rw [runsOf_append, runsOf_run]
       split at hk
       ·rename_i e'; rw [e']; exact List.mem_append_right _ (by simp)
       ·exact List.mem_append_left _ (h.sub k hk)
      ·rw [hset]
       unfold upL
       split
       ·rfl
       ·rename_i hne
        rcases List.mem_append.1 hx with hx | hx
        ·exact h.eff x hx he
        ·simp at hx; subst hx; exact absurd rfl hne
      ·have hfr' : mixF ops (lst l) (fr.put (dstAt ops i) v) fr0 = mixF ops (lst l) fr fr0 := by
        funext t
        by_cases hh : ∃ j, j < ops.size ∧ dstAt ops j = some t ∧ lst l j = true
        ·obtain ⟨j, hj, hd, hb'⟩ := hh
         rw [mix_yes hj hd hb', mix_yes hj hd hb']
         refine put_other hok hj hil (fun e' => ?_) hd v
         subst e'; rw [hLi] at hb'; cases hb'
        ·have hno : ∀ j, j < ops.size → dstAt ops j = some t → lst l j = false := fun j hj hd => by
          cases hb' : lst l j with
          | false => rfl
          | true => exact absurd ⟨j, hj, hd, hb'⟩ hh
         rw [mix_no hno, mix_no hno]
       rw [hset, mix_up hil hok v (fun d hd => by rw [hd]; simp [Fr.put]), hfr']
       rw [← hdst, ← chkDst_eq d1]
       exact (h.frame.mono hle').put hu
      ·have h1 : dstAt ops i ≠ some t := ht i (by rw [runsOf_append, runsOf_run]; simp)
       have h2 : (fr.put (dstAt ops i) v) t = fr t := by
        cases hd : dstAt ops i with
        | none => rfl
        | some d =>
         simp only [Fr.put]
         rw [if_neg]
         rintro rfl
         exact h1 hd
       rw [h2]
       exact h.unw t fun k hk => ht k (by rw [runsOf_append]; exact List.mem_append_left _ hk)
      ·rw [runsOf_append, runsOf_run] at hk ⊢
       rcases List.mem_append.1 hk with hk | hk
       ·exact List.mem_append_left _ (h.ord k hk j hb' hj)
       ·simp [runsOf] at hk
        subst hk
        exact List.mem_append_left _ (h.sub j (hbef j hb'))
      ·rw [runsOf_append, runsOf_run] at hk
       rcases List.mem_append.1 hk with hk | hk
       ·exact hev k hk hLk
       ·simp [runsOf] at hk
        subst hk
        rw [hset] at hLk
        simp [upL] at hLk
     obtain ⟨done', rest', fr', hinv', hb'⟩ := hinv.peel hok r.length (Nat.le_refl _)
     exact ih hl' hleft' hdown' hinv' hb'
    have hLk0 : ∀ k, lst (l.setIfInBounds i true) k = false → lst l k = false := fun k hk => by
     rw [hset] at hk
     unfold upL at hk
     split at hk
     ·cases hk
     ·exact hk
    have hold : ∀ k ∈ runsOf done, lst l k = false → EvalTo P n ops B done fr0 k fr S := fun k hk hLk => by
     rcases h.ev k hk hLk with he | he
     ·exact he
     ·exfalso
      have hp := he.1
      unfold pend at hp
      rw [List.takeWhile_cons, if_neg (by simp [hy])] at hp
      simp at hp
    have hgag : AgreeOn (gSlots oc.g) fr (mixF ops (lst l) fr fr0) := fun t ht => hag t (by simp [opSlots, ht])
    have hsag : AgreeOn ei.slots fr (mixF ops (lst l) fr fr0) := fun t ht => hag t (by simp [opSlots, hei, I.slots, ht])
    split at hform <;> (try (cases hform; done))
    ·rename_i hwt
     have hw : Region.wanted o (yielded ops a.tmps) = true := wanted_rel h.frame d2 (by rw [← wanted_congr hgag]; exact hwt)
     rw [if_pos hw]
     refine .inl ?_
     rw [hei] at hform
     have d3' : chkEI P n o.op ei = true := by rw [hei] at d3; exact d3
     refine simEI h.W h.frame d3' (wE_congr S hsag hform) (fun g' v S' u w' hle' hW' hu hk => ?_) (fun g' v S' u w' hle' hW' hu hk => ?_)
     ·rw [hdst] at hk
      refine next g' v S' u w' hle' hW' hu hk (fun k hkd hLk => ?_)
      have hLk' := hLk0 k hLk
      have hev0 := EvalTo.put (x := (i, .run oc)) hok hdq h.ord hkd hil hned v (hold k hkd hLk')
      obtain ⟨ock, fik, ok, e1, e2, e3, e4, e5, e6⟩ := hev0
      rcases e6 with ⟨a1, v1, a2, a3⟩ | ⟨a1, a2⟩
      ·cases hrd : fik.reader with
       | false => exact .inl ⟨ock, fik, ok, e1, e2, e3, e4, e5, .inl ⟨a1, v1, by rw [aF_store hrd _ S' S]; exact a2, a3⟩⟩
       | true =>
        obtain ⟨oc', fi', b1, b2, b3⟩ := e5 hrd
        have b1' : (k, Item.run oc') ∈ done := by
         rcases List.mem_append.1 b1 with b1 | b1
         ·exact b1
         ·simp at b1
          obtain ⟨rfl, _⟩ := b1
          exact absurd hkd hned
        have hbh : chkBehind B done i r = true := by
         rw [hei] at c6
         exact c6
        have hx := List.all_eq_true.1 hbh _ b1'
        obtain ⟨od, og, oi⟩ := oc'
        simp only at b2
        subst b2
        simp only [b3, Bool.not_true, Bool.false_or, Bool.or_eq_true] at hx
        have e3' := e3
        simp only [chkOp, Bool.and_eq_true] at e3'
        rcases hx with hx | hx
        ·exfalso
         have := hbef k hx
         rw [hLk'] at this; cases this
        ·exact .inr ⟨hx, ok, ock.g, e1, e3'.1.2, a1⟩
      ·exact .inl ⟨ock, fik, ok, e1, e2, e3, e4, e5, .inr ⟨a1, a2⟩⟩
     ·exact ⟨h.defers, g', fr0, S', v, u, rfl, h.le.trans hle', hW', hu, hKp _ _ hk⟩
    ·rename_i hwt
     have hw : Region.wanted o (yielded ops a.tmps) = false := wanted_rel h.frame d2 (by rw [← wanted_congr hgag]; exact hwt)
     rw [if_neg (by rw [hw]; simp)]
     rw [hdst] at hform
     refine next g (.tup []) S undef w (G.le.refl g) h.W ⟨[], rfl, rfl⟩ hform (fun k hkd hLk => ?_)
     exact .inl (EvalTo.put hok hdq h.ord hkd hil hned _ (hold k hkd (hLk0 k hLk)))
end
end Go.VM
namespace Go.VM
open Go Go.RowKit
def addE (ops : Array Oper) (i j : Nat) : Array Oper := ops.mapIdx fun k o => if k = j then { o with after := o.after.push ⟨i, .phase⟩ } else o
def chkAlt (P : Program) (n : Nat) : Array Oper → Cd → Bool
 | ops, .reg ord items => decide (ord.length = items.length) && chkDraw P n ops (ord.zip items)
 | ops, .alt i j a b => decide (i ≠ j) && chkAlt P n (addE ops i j) a && chkAlt P n (addE ops j i) b
 | _, _ => false
def chkCode (P : Program) (n : Nat) : Code → Cd → Bool
 | .skip, .skip => true
 | .region _ ops false, .reg [] items => chkPlain P n ops ops.toList items
 | .region _ ops true, .reg ord items => decide (ord.length = items.length) && chkDraw P n ops (ord.zip items)
 | .seq a b, .seq a' b' => chkCode P n a a' && chkCode P n b b'
 | .cond c a b, .ite c' a' b' => chkA n c c' && chkCode P n a a' && chkCode P n b b'
 | .block id c, .blk id' c' => decide (id = id') && chkCode P n c c'
 | .loop c, .loop c' => chkCode P n c c'
 | .exit id, .exit id' => decide (id = id')
 | .ret, .ret => true
 | .region _ ops true, .alt i j a b => chkAlt P n ops (.alt i j a b)
 | _, .stuck => true
 | _, _ => false
theorem chkSeq_lt {P : Program} {n : Nat} {B : List Nat} {ops : Array Oper} : ∀ {rest before : Seq}, chkSeq P n B ops before rest = true → ∀ i ∈ runsOf rest, i < ops.size
 | [], _, _, i, hi => by simp [runsOf] at hi
 | (j, x) :: rest, before, h, i, hi => by
  simp only [chkSeq, Bool.and_eq_true] at h
  cases x with
  | run oc =>
   rw [runsOf_run] at hi
   rcases List.mem_cons.1 hi with rfl | hi
   ·have h1 := h.1
    simp only [Bool.and_eq_true] at h1
    have h2 := h1.1.1.1.1.1
    cases ho : ops[i]? with
    | none => rw [ho] at h2; cases h2
    | some o => exact (Array.getElem?_eq_some_iff.1 ho).1
   ·exact chkSeq_lt h.2 i hi
  | chk d g fi =>
   rw [runsOf_chk] at hi
   exact chkSeq_lt h.2 i hi
theorem draw_ok {P : Program} {n : Nat} {ops : Array Oper} {q : Seq} (h : chkDraw P n ops q = true) : DOk P n ops (befs ops q) q ∧ chkSeq P n (befs ops q) ops [] q = true := by
 simp only [chkDraw, Bool.and_eq_true, decide_eq_true_eq] at h
 obtain ⟨⟨⟨⟨h1, h2⟩, h3⟩, h4⟩, h5⟩ := h
 refine ⟨⟨fun i hi => ?_, chkSeq_lt h5, h3, fun i o ho d hd => ?_, rfl⟩, h5⟩
 ·simpa using List.all_eq_true.1 h2 i (by simpa using hi)
 ·have := List.all_eq_true.1 h4 i (by simpa using (Array.getElem?_eq_some_iff.1 ho).1)
  rw [ho] at this
  simpa using List.all_eq_true.1 this d hd
section
variable {D : List Deferred} {P : Program} {w0 : World} {n : Nat}
def AtLoop (P : Program) (c : Code) (Q : Exit → Act → World → Prop) (a : Act) (w : World) : Prop :=
 ∀ (b : Frame) (k : List Go.Item) (cs : List Frame), ∃ e a' w', Q e a' w' ∧ Arrives P (lone (b.at a (.inLoop c :: k)) cs w) b k cs e a' w'
theorem loop_round {c : Code} {Q : Exit → Act → World → Prop} {a : Act} {w : World} (h : c.wp P (Exit.then (AtLoop P c Q) Q) a w) (b : Frame) (k : List Go.Item) (cs : List Frame) :
  ∃ e a' w', Q e a' w' ∧ Arrives P (lone (b.at a (.code c :: .inLoop c :: k)) cs w) b k cs e a' w' := by
 obtain ⟨e, a₁, w₁, hq, harr⟩ := h b (.inLoop c :: k) cs
 cases e with
 | normal =>
  obtain ⟨e₂, a₂, w₂, hq₂, harr₂⟩ := hq b k cs
  exact ⟨e₂, a₂, w₂, hq₂, .of_steps harr harr₂⟩
 | exit id => exact ⟨_, a₁, w₁, hq, .pass (x := .inLoop c) rfl (fun _ _ => .inl (by simp)) harr⟩
 | goto l => exact ⟨_, a₁, w₁, hq, .pass (x := .inLoop c) rfl (fun _ _ => .inl (by simp)) harr⟩
 | ret => exact ⟨_, a₁, w₁, hq, .pass (x := .inLoop c) rfl (fun _ _ => .inl (by simp)) harr⟩
 | panic ch => exact ⟨_, a₁, w₁, hq, .pass (x := .inLoop c) rfl (fun _ _ => .inl (by simp)) harr⟩
 | outgrown => exact ⟨_, a₁, w₁, hq, .pass (x := .inLoop c) rfl (fun _ _ => .inl (by simp)) harr⟩
theorem atLoop_round {c : Code} {Q : Exit → Act → World → Prop} {a : Act} {w : World} (h : c.wp P (Exit.then (AtLoop P c Q) Q) a w) : AtLoop P c Q a w := fun b k cs =>
 let ⟨e, a', w', hq, r⟩ := loop_round h b k cs
 ⟨e, a', w', hq, .of_steps (.one step_inLoop) r⟩
theorem wp_loop_round {c : Code} {Q : Exit → Act → World → Prop} {a : Act} {w : World} (h : c.wp P (Exit.then (AtLoop P c Q) Q) a w) : (Code.loop c).wp P Q a w := fun b k cs =>
 let ⟨e, a', w', hq, r⟩ := loop_round h b k cs
 ⟨e, a', w', hq, .of_steps (.one step_loop) r⟩
theorem any_reg {ops : Array Oper} {ord : List Nat} {items : List Item} (hlen : ord.length = items.length) (hc : chkDraw P n ops (ord.zip items) = true) {g0 g : G} {fr : Fr} {S : St} {a : Act} {w : World} {Q : CPost}
  (hl : g0.le g) (hW : RelW w0 g S w) (hF : RelF g n fr a.tmps) (hd : a.defers = D) (h : wItems (RSim P w0) items fr S (Q .normal) (fun v S' => Q (.panic v) fr S')) :
  wpAny P .any ops (QRel D w0 n g0 Q) ops.size (Array.replicate ops.size false) a { w with drawn := w.drawn + 1 } := by
 obtain ⟨hok, hseq⟩ := draw_ok hc
 have hno : ∀ j, lst (Array.replicate ops.size false) j = false := by
  intro j
  simp only [lst, Array.getD_eq_getD_getElem?]
  rw [Array.getElem?_replicate]
  split <;> rfl
 have hmixed : mixF ops (lst (Array.replicate ops.size false)) fr fr = fr := by
  funext t
  exact mix_no fun j _ _ => hno j
 have hfst : (ord.zip items).map (·.2) = items := by
  rw [List.map_snd_zip]
  omega
 have hinv : DInv D P w0 n ops (befs ops (ord.zip items)) (ord.zip items) fr (Q .normal) (fun v S' => Q (.panic v) fr S') g0 (lst (Array.replicate ops.size false)) [] (ord.zip items) g fr S a { w with drawn := w.drawn + 1 } := by
  refine ⟨rfl, hseq, hl, hW.drawn, hd, (by rw [hfst]; exact h), fun i hi => ?_, fun x hx => (by cases hx), (by rw [hmixed]; exact hF), fun _ _ => rfl, fun i hi => (by simp [runsOf] at hi), fun i hi => (by simp [runsOf] at hi)⟩
  rw [hno] at hi; cases hi
 obtain ⟨done, rest, fr', hinv', hb⟩ := hinv.peel hok _ (Nat.le_refl _)
 refine sim_draw hok (fun _ _ h => h) (fun _ _ h => h) ops.size (by simp) ?_ ?_ hinv' hb
 ·unfold leftN
  exact Nat.le_trans (List.length_filter_le _ _) (by simp)
 ·intro i o _ hi
  rw [hno] at hi; cases hi
def Takes (ops : Array Oper) : Array Bool → List Nat → Prop
 | l, [] => Region.ready .any ops l = []
 | l, i :: r => i ∈ Region.ready .any ops l ∧ Takes ops (l.setIfInBounds i true) r
theorem linear_takes {ops : Array Oper} : ∀ (fuel t : Nat) (l : Array Bool), l.size = ops.size → leftN ops (lst l) ≤ fuel → Takes ops l (Region.linearise.go .any ops fuel t l []) := by
 intro fuel
 induction fuel with
 | zero =>
  intro t l hl h
  simp only [Region.linearise.go, List.reverse_nil, Takes]
  rw [List.eq_nil_iff_forall_not_mem]
  intro i hi
  obtain ⟨h1, h2, _⟩ := (ready_iff hl).1 hi
  have := left_up (L := lst l) h1 h2
  omega
 | succ fuel ih =>
  intro t l hl h
  simp only [Region.linearise.go]
  change Takes ops l (match (Region.ready .any ops l)[t % (Region.ready .any ops l).length]? with
   | some i => Region.linearise.go .any ops fuel (t / (Region.ready .any ops l).length) (l.setIfInBounds i true) [i]
   | none => [].reverse)
  cases hi : (Region.ready .any ops l)[t % (Region.ready .any ops l).length]? with
  | none =>
   have hnil : Region.ready .any ops l = [] := by
    cases hr : Region.ready .any ops l with
    | nil => rfl
    | cons x xs =>
     rw [hr] at hi
     have hlt : t % (x :: xs).length < (x :: xs).length := Nat.mod_lt _ (by simp)
     simp at hi
     simp at hlt
     omega
   exact hnil
  | some i =>
   simp only []
   rw [linearise_go_acc, List.reverse_singleton, List.singleton_append]
   have hm := List.mem_of_getElem? hi
   obtain ⟨h1, h2, _⟩ := (ready_iff hl).1 hm
   refine ⟨hm, ih _ _ (by simpa using hl) ?_⟩
   rw [lst_set (by omega)]
   have := left_up (L := lst l) h1 h2
   omega
theorem takes_sound {ops : Array Oper} {Q : Exit → Act → World → Prop} : ∀ (ord : List Nat) (fuel : Nat) (l : Array Bool) (a : Act) (w : World), wpAny P .any ops Q fuel l a w → Takes ops l ord → wpOps P ops Q ord a w
 | [], 0, l, a, w, h, ht => h.2
 | [], fuel + 1, l, a, w, h, ht => h.1 ht
 | i :: r, 0, l, a, w, h, ht => by
  have := ht.1
  rw [h.1] at this
  cases this
 | i :: r, fuel + 1, l, a, w, h, ht => by
  rw [wpOps_cons]
  exact wpOp_mono (fun a w hh => takes_sound r fuel _ a w hh ht.2) (h.2 i ht.1)
theorem addE_size (ops : Array Oper) (i j : Nat) : (addE ops i j).size = ops.size := by simp [addE]
theorem addE_get (ops : Array Oper) (i j k : Nat) : (addE ops i j)[k]? = (ops[k]?).map fun o => if k = j then { o with after := o.after.push ⟨i, .phase⟩ } else o := by
 simp only [addE, Array.getElem?_mapIdx]
theorem depsOf_push (o : Oper) (i d : Nat) : d ∈ depsOf { o with after := o.after.push ⟨i, .phase⟩ } ↔ d ∈ depsOf o ∨ d = i := by
 simp only [depsOf, Array.toList_push, List.filterMap_append, List.mem_append]
 refine or_congr Iff.rfl ?_
 simp [Region.binds]
theorem ready_addE {ops : Array Oper} {i j k : Nat} {l : Array Bool} (hl : l.size = ops.size) : k ∈ Region.ready .any (addE ops i j) l ↔ k ∈ Region.ready .any ops l ∧ (k = j → lst l i = true) := by
 rw [ready_iff hl, ready_iff (hl.trans (addE_size ops i j).symm), addE_size, addE_get]
 constructor
 ·rintro ⟨h1, h2, o, ho, h3⟩
  obtain ⟨o', ho', e⟩ := Option.map_eq_some_iff.1 ho
  subst e
  refine ⟨⟨h1, h2, o', ho', fun d hd => ?_⟩, fun e => ?_⟩
  ·split at h3
   ·exact h3 d ((depsOf_push o' i d).2 (.inl hd))
   ·exact h3 d hd
  ·rw [if_pos e] at h3
   exact h3 i ((depsOf_push o' i i).2 (.inr rfl))
 ·rintro ⟨⟨h1, h2, o, ho, h3⟩, h4⟩
  refine ⟨h1, h2, _, by rw [ho]; rfl, fun d hd => ?_⟩
  split at hd
  ·rename_i e
   rcases (depsOf_push o i d).1 hd with hd | rfl
   ·exact h3 d hd
   ·exact h4 e
  ·exact h3 d hd
theorem takes_one {ops : Array Oper} {i j : Nat} : ∀ (ord : List Nat) (l : Array Bool), l.size = ops.size → lst l i = true → Takes ops l ord → Takes (addE ops i j) l ord
 | [], l, hl, hi, h => by
  simp only [Takes] at h ⊢
  rw [List.eq_nil_iff_forall_not_mem] at h ⊢
  exact fun k hk => h k ((ready_addE hl).1 hk).1
 | k :: r, l, hl, hi, h => by
  refine ⟨(ready_addE hl).2 ⟨h.1, fun _ => hi⟩, takes_one r _ (by simpa using hl) ?_ h.2⟩
  obtain ⟨h1, _⟩ := (ready_iff hl).1 h.1
  rw [lst_set (by omega)]
  unfold upL
  split
  ·rfl
  ·exact hi
theorem takes_two {ops : Array Oper} {i j : Nat} (hij : i ≠ j) : ∀ (ord : List Nat) (l : Array Bool), l.size = ops.size → Takes ops l ord → Takes (addE ops i j) l ord ∨ Takes (addE ops j i) l ord
 | [], l, hl, h => by
  refine .inl ?_
  simp only [Takes] at h ⊢
  rw [List.eq_nil_iff_forall_not_mem] at h ⊢
  exact fun k hk => h k ((ready_addE hl).1 hk).1
 | k :: r, l, hl, h => by
  obtain ⟨h1, _⟩ := (ready_iff hl).1 h.1
  have hset : ∀ x, lst (l.setIfInBounds k true) x = upL (lst l) k x := fun x => by rw [lst_set (by omega)]
  by_cases hi : k = i
  ·subst hi
   exact .inl ⟨(ready_addE hl).2 ⟨h.1, fun e => absurd e hij⟩, takes_one r _ (by simpa using hl) (by rw [hset]; simp [upL]) h.2⟩
  ·by_cases hj : k = j
   ·subst hj
    exact .inr ⟨(ready_addE hl).2 ⟨h.1, fun e => absurd e (Ne.symm hij)⟩, takes_one r _ (by simpa using hl) (by rw [hset]; simp [upL]) h.2⟩
   ·exact (takes_two hij r _ (by simpa using hl) h.2).imp (fun hh => ⟨(ready_addE hl).2 ⟨h.1, fun e => absurd e hj⟩, hh⟩) (fun hh => ⟨(ready_addE hl).2 ⟨h.1, fun e => absurd e hi⟩, hh⟩)
theorem yielded_addE (ops : Array Oper) (i j : Nat) (tmps : Array Value) : yielded (addE ops i j) tmps = yielded ops tmps := by
 funext k
 have e : ((addE ops i j)[k]?).bind (·.dst) = (ops[k]?).bind (·.dst) := by
  rw [addE_get]
  cases ops[k]? with
  | none => rfl
  | some o => by_cases h : k = j <;> simp [h]
 simp only [yielded, e]
theorem wpOps_addE {ops : Array Oper} {i j : Nat} {Q : Exit → Act → World → Prop} : ∀ (ord : List Nat) (a : Act) (w : World), wpOps P (addE ops i j) Q ord a w → wpOps P ops Q ord a w
 | [], a, w, h => h
 | k :: r, a, w, h => by
  rw [wpOps_cons] at h ⊢
  have hr := fun a w => wpOps_addE (ops := ops) (i := i) (j := j) (Q := Q) r a w
  refine wpOp_mono hr ?_
  unfold wpOp at h ⊢
  rw [addE_get, yielded_addE] at h
  cases ho : ops[k]? with
  | none => rw [ho] at h; exact h
  | some o =>
   rw [ho] at h
   simp only [Option.map_some] at h
   split at h
   ·exact h
   ·exact h
theorem sim_alt {d : Cd} : ∀ {ops : Array Oper}, chkAlt P n ops d = true → ∀ {g0 g : G} {fr : Fr} {S : St} {a : Act} {w : World} {Q : CPost},
  g0.le g → RelW w0 g S w → RelF g n fr a.tmps → a.defers = D → wCode (RSim P w0) d fr S Q → ∀ ord, Takes ops (Array.replicate ops.size false) ord → wpOps P ops (QRel D w0 n g0 Q) ord a { w with drawn := w.drawn + 1 } := by
 induction d with
 | reg ord items =>
  intro ops hc g0 g fr S a w Q hl hW hF hd h o ht
  simp only [chkAlt, Bool.and_eq_true, decide_eq_true_eq] at hc
  exact takes_sound o _ _ a _ (any_reg hc.1 hc.2 hl hW hF hd h) ht
 | alt i j x y ihx ihy =>
  intro ops hc g0 g fr S a w Q hl hW hF hd h o ht
  simp only [chkAlt, Bool.and_eq_true, decide_eq_true_eq] at hc
  rcases takes_two hc.1.1 o _ (by simp) ht with h' | h'
  ·exact wpOps_addE _ _ _ (ihx hc.1.2 hl hW hF hd h.1 o (by rw [addE_size]; exact h'))
  ·exact wpOps_addE _ _ _ (ihy hc.2 hl hW hF hd h.2 o (by rw [addE_size]; exact h'))
 | _ => intro ops hc; simp only [chkAlt] at hc; cases hc
theorem sim_code (hm : P.follows .mixedOrders = true) : ∀ {c : Code} {d : Cd}, chkCode P n c d = true → ∀ {g0 g : G} {fr : Fr} {S : St} {a : Act} {w : World} {Q : CPost},
  g0.le g → RelW w0 g S w → RelF g n fr a.tmps → a.defers = D → wCode (RSim P w0) d fr S Q → c.wp P (QRel D w0 n g0 Q) a w := by
 intro c d
 induction d generalizing c with
 | skip =>
  intro hc g0 g fr S a w Q hl hW hF hd h
  cases c <;> simp only [chkCode] at hc <;> try (cases hc; done)
  ·exact wp_skip ⟨hd, g, fr, S, hl, hW, hF, h⟩
 | reg ord items =>
  intro hc g0 g fr S a w Q hl hW hF hd h
  cases c <;> try (simp only [chkCode] at hc; cases hc; done)
  rename_i id ops draw
  cases draw with
  | false =>
   cases ord with
   | cons => simp only [chkCode] at hc; cases hc
   | nil =>
    simp only [chkCode] at hc
    exact wp_region_list (simPlain hl hc hW hF hd h)
  | true =>
   simp only [chkCode, Bool.and_eq_true, decide_eq_true_eq] at hc
   exact wp_region_any hm (any_reg hc.1 hc.2 hl hW hF hd h)
 | seq x y ihx ihy =>
  intro hc g0 g fr S a w Q hl hW hF hd h
  cases c <;> try (simp only [chkCode] at hc; cases hc; done)
  ·simp only [chkCode, Bool.and_eq_true] at hc
   refine wp_seq (wp_mono (ihx hc.1 hl hW hF hd h) fun e a' w' q => ?_)
   cases e with
   | normal =>
    obtain ⟨hd', g', fr', S', hl', hW', hF', hk⟩ := q
    exact ihy hc.2 hl' hW' hF' hd' hk
   | exit id => exact q
   | goto l => exact q
   | ret => exact q
   | panic ch => exact q
   | outgrown => exact q
 | ite x y z ihy ihz =>
  intro hc g0 g fr S a w Q hl hW hF hd h
  cases c <;> try (simp only [chkCode] at hc; cases hc; done)
  ·simp only [chkCode, Bool.and_eq_true] at hc
   have k := chkA_rel hF hc.1.1
   simp only [wCode] at h
   split at h <;> (try (cases h; done))
   ·rename_i he
    rw [he] at k
    exact wp_cond_true k (ihy hc.1.2 hl hW hF hd h)
   ·rename_i he
    rw [he] at k
    exact wp_cond_false k (ihz hc.2 hl hW hF hd h)
   ·rename_i he
    rw [he] at k
    obtain ⟨b, e⟩ := (show Ab.holds .bool _ from k)
    cases b
    ·exact wp_cond_false e (ihz hc.2 hl hW hF hd h.2)
    ·exact wp_cond_true e (ihy hc.1.2 hl hW hF hd h.1)
 | blk id x ih =>
  intro hc g0 g fr S a w Q hl hW hF hd h
  cases c <;> try (simp only [chkCode] at hc; cases hc; done)
  ·simp only [chkCode, Bool.and_eq_true, decide_eq_true_eq] at hc
   obtain ⟨rfl, hc⟩ := hc
   refine wp_block (wp_mono (ih hc hl hW hF hd h) fun e a' w' q => ?_)
   cases e with
   | exit i =>
    obtain ⟨hd', g', fr', S', hl', hW', hF', hk⟩ := q
    simp only [Exit.inBlock]
    simp only [blkQ] at hk
    split
    ·rename_i e; rw [if_pos e] at hk; exact ⟨hd', g', fr', S', hl', hW', hF', hk⟩
    ·rename_i e; rw [if_neg e] at hk; exact ⟨hd', g', fr', S', hl', hW', hF', hk⟩
   | normal => exact q
   | goto l => exact q
   | ret => exact q
   | panic ch => exact q
   | outgrown => exact q
 | loop x ih =>
  intro hc g0 g fr S a w Q hl hW hF hd h
  cases c <;> try (simp only [chkCode] at hc; cases hc; done)
  ·rename_i c
   simp only [chkCode] at hc
   have key := h (fun fr S => ∀ (g : G) (a : Act) (w : World), g0.le g → RelW w0 g S w → RelF g n fr a.tmps → a.defers = D → AtLoop P c (QRel D w0 n g0 Q) a w ∧ (Code.loop c).wp P (QRel D w0 n g0 Q) a w) ?_
   ·exact (key g a w hl hW hF hd).2
   ·intro fr S hb g a w hl hW hF hd
    have hr : c.wp P (Exit.then (AtLoop P c (QRel D w0 n g0 Q)) (QRel D w0 n g0 Q)) a w := by
     refine wp_mono (ih hc hl hW hF hd hb) fun e a' w' q => ?_
     cases e with
     | normal =>
      obtain ⟨hd', g', fr', S', hl', hW', hF', hk⟩ := q
      exact (hk g' a' w' hl' hW' hF' hd').1
     | exit id => exact q
     | goto l => exact q
     | ret => exact q
     | panic ch => exact q
     | outgrown => exact q
    exact ⟨atLoop_round hr, wp_loop_round hr⟩
 | exit id =>
  intro hc g0 g fr S a w Q hl hW hF hd h
  cases c <;> try (simp only [chkCode] at hc; cases hc; done)
  ·simp only [chkCode, decide_eq_true_eq] at hc
   subst hc
   exact wp_exit ⟨hd, g, fr, S, hl, hW, hF, h⟩
 | ret =>
  intro hc g0 g fr S a w Q hl hW hF hd h
  cases c <;> try (simp only [chkCode] at hc; cases hc; done)
  ·exact wp_ret ⟨hd, g, fr, S, hl, hW, hF, h⟩
 | stuck => intro hc g0 g fr S a w Q hl hW hF hd h; exact absurd h id
 | alt i j x y _ _ =>
  intro hc g0 g fr S a w Q hl hW hF hd h
  cases c <;> try (simp only [chkCode] at hc; cases hc; done)
  rename_i id ops draw
  cases draw with
  | false => simp only [chkCode] at hc; cases hc
  | true =>
   simp only [chkCode] at hc
   refine wp_region_draw fun t => ?_
   simp only [Region.schedule, hm, Bool.true_or, if_true]
   refine sim_alt hc hl hW hF hd h _ (linear_takes _ _ _ (by simp) ?_)
   unfold leftN
   exact Nat.le_trans (List.length_filter_le _ _) (by simp)
end
end Go.VM
namespace Go.VM
open Go Go.RowKit
def chkRV (P : Program) (n : Nat) : ResultVar → RV → Bool
 | .tmp t, .tmp t' => decide (t = t') && decide (t < n)
 | .cell x t, .cell x' agg sz => decide (x = x') && decide (x < n) && decide (szOf P t = some sz) && decide (aggOf P t = some agg)
 | _, _ => false
def chkRVs (P : Program) (n : Nat) : List ResultVar → List RV → Bool
 | [], [] => true
 | x :: xs, y :: ys => chkRV P n x y && chkRVs P n xs ys
 | _, _ => false
def chkFn (P : Program) (f : FuncId) (fc : FnC) : Bool :=
 match P.funcs[f]? with
 | some fn => match fn.body with
  | some c => !(fn.name == "runtime.NumGoroutine") && decide (fn.ntmps = fc.ntmps) && chkRVs P fc.ntmps fn.results.toList fc.res && chkCode P fc.ntmps c fc.body
  | none => false
 | none => false
section
variable {P : Program} {w0 : World}
def readR (tmps : Array Value) : ResultVar → Sem Value
 | .tmp t => pure (tmps.getD t undef)
 | .cell a t => do loadVar t (← asAddr (tmps.getD a undef))
theorem readRV_sim {g : G} {S : St} {w : World} {n : Nat} {fr : Fr} {tmps : Array Value} (hW : RelW w0 g S w) (hF : RelF g n fr tmps) {x : ResultVar} {y : RV} (hc : chkRV P n x y = true) {v : V} (hv : readRV fr S y = some v) :
  ∃ u, (readR tmps x).run P w = .ok u w ∧ RelV g v u := by
 unfold chkRV at hc
 split at hc
 ·simp only [Bool.and_eq_true, decide_eq_true_eq] at hc
  obtain ⟨rfl, ht⟩ := hc
  simp only [readRV] at hv
  injection hv with hv; subst hv
  exact ⟨_, rfl, hF.2 _ ht⟩
 ·rename_i x t x' agg sz
  simp only [Bool.and_eq_true, decide_eq_true_eq] at hc
  obtain ⟨⟨⟨rfl, hx⟩, hs⟩, ha⟩ := hc
  have k := hF.2 _ hx
  simp only [readRV, aF, Arg.ev] at hv
  split at hv
  ·rename_i i off he
   obtain ⟨cs, hcs, hv⟩ := Option.bind_eq_some_iff.1 hv
   rw [he] at k
   obtain ⟨k1, e⟩ := k
   obtain ⟨xs, r, on, rd⟩ := hW.cells hcs
   obtain ⟨u, eu, ku⟩ := run_loadVar_reads (P := P) ha hs (r.drop off) (on.drop off) (rd.drop off) hv
   exact ⟨u, by simp [readR, asAddr, e, eu], ku⟩
  ·rename_i cs he
   rw [he] at k
   obtain ⟨b, p, us, e, r, on, ic⟩ := k
   obtain ⟨u, eu, ku⟩ := run_loadVar_reads (P := P) ha hs r on (hW.reads ic) hv
   exact ⟨u, by simp [readR, asAddr, e, eu], ku⟩
  ·cases hv
 ·cases hc
theorem readRVs_sim {g : G} {S : St} {w : World} {n : Nat} {fr : Fr} {tmps : Array Value} (hW : RelW w0 g S w) (hF : RelF g n fr tmps) : ∀ {xs : List ResultVar} {ys : List RV}, chkRVs P n xs ys = true → ∀ {vs : List V}, ys.mapM (readRV fr S) = some vs →
  ∃ us, (xs.mapM (readR tmps)).run P w = .ok us w ∧ RelL g vs us
 | [], [], _, vs, hv => by
  simp at hv; subst hv
  exact ⟨[], rfl, rfl⟩
 | x :: xs, y :: ys, hc, vs, hv => by
  simp only [chkRVs, Bool.and_eq_true] at hc
  rw [List.mapM_cons] at hv
  obtain ⟨v, hv1, hv⟩ := Option.bind_eq_some_iff.1 hv
  obtain ⟨vs', hv2, hv⟩ := Option.bind_eq_some_iff.1 hv
  injection hv with hv; subst hv
  obtain ⟨u, e1, k1⟩ := readRV_sim hW hF hc.1 hv1
  obtain ⟨us, e2, k2⟩ := readRVs_sim hW hF hc.2 hv2
  exact ⟨u :: us, by simp [List.mapM_cons, e1, e2], ⟨u, us, rfl, k1, k2⟩⟩
 | [], _ :: _, h, _, _ => by cases h
 | _ :: _, [], h, _, _ => by cases h
theorem results_run {fn : Func} {tmps : Array Value} {us : List Value} {w : World} (h : (fn.results.toList.mapM (readR tmps)).run P w = .ok us w) :
  (results fn tmps).run P w = .ok (match us with | [u] => u | us => .tuple us.toArray) w := by
 have e : results fn tmps = (do let vs ← fn.results.mapM (readR tmps); pure (if h : vs.size = 1 then vs[0] else .tuple vs)) := by
  unfold results
  congr 1
 rw [e, Array.mapM_eq_mapM_toList]
 simp only [Sem.run_bind, Sem.run_map, h, Result.andThen_ok]
 rcases us with _ | ⟨u, _ | ⟨u', us⟩⟩ <;> simp
theorem res_sim {g : G} {S : St} {w : World} {n : Nat} {fr : Fr} {tmps : Array Value} (hW : RelW w0 g S w) (hF : RelF g n fr tmps) {fn : Func} {ys : List RV} (hc : chkRVs P n fn.results.toList ys = true) {v : V} (hv : readRes fr S ys = some v) :
  ∃ u, (results fn tmps).run P w = .ok u w ∧ RelV g v u := by
 rcases ys with _ | ⟨y, _ | ⟨y', ys⟩⟩
 ·simp only [readRes] at hv
  injection hv with hv; subst hv
  obtain ⟨us, e, k⟩ := readRVs_sim (vs := []) hW hF hc (by rfl)
  have e' := results_run e
  have : us = [] := k
  subst this
  exact ⟨_, e', ⟨[], rfl, rfl⟩⟩
 ·simp only [readRes] at hv
  obtain ⟨us, e, k⟩ := readRVs_sim (vs := [v]) hW hF hc (by simp [hv])
  have e' := results_run e
  obtain ⟨u, us', rfl, k1, k2⟩ := k
  have : us' = [] := k2
  subst this
  exact ⟨_, e', k1⟩
 ·simp only [readRes] at hv
  obtain ⟨vs, hvs, rfl⟩ := Option.map_eq_some_iff.1 hv
  obtain ⟨us, e, k⟩ := readRVs_sim hW hF hc hvs
  have e' := results_run e
  rw [List.mapM_cons] at hvs
  obtain ⟨v1, _, hvs⟩ := Option.bind_eq_some_iff.1 hvs
  obtain ⟨vs', hvs', hvs⟩ := Option.bind_eq_some_iff.1 hvs
  injection hvs with hvs; subst hvs
  rw [List.mapM_cons] at hvs'
  obtain ⟨v2, _, hvs'⟩ := Option.bind_eq_some_iff.1 hvs'
  obtain ⟨vs2, _, hvs'⟩ := Option.bind_eq_some_iff.1 hvs'
  injection hvs' with hvs'; subst hvs'
  obtain ⟨u1, us1, rfl, k1, u2, us2, rfl, k2, k3⟩ := k
  exact ⟨_, e', ⟨u1 :: u2 :: us2, rfl, ⟨u1, _, rfl, k1, u2, _, rfl, k2, k3⟩⟩⟩
theorem RelL.getD {g : G} : ∀ {vs : List V} {us : List Value}, RelL g vs us → ∀ i, RelV g (vs.getD i (.tup [])) (us.getD i undef)
 | [], us, h, i => by
  have : us = [] := h
  subst this
  simp only [List.getD_nil]
  exact ⟨[], rfl, rfl⟩
 | v :: vs, us, h, i => by
  obtain ⟨u, us', rfl, h1, h2⟩ := h
  cases i with
  | zero => exact h1
  | succ i => simpa using RelL.getD h2 i
theorem RSim.mono {f : FuncId} {args : List V} {S : St} {Q Q' : AEnd → St → Prop} (h : RSim P w0 f args S Q) (hQ : ∀ e S, Q e S → Q' e S) : RSim P w0 f args S Q' :=
 ⟨h.1, fun g w us hW hr => (h.2 g w us hW hr).mono fun e w' ⟨g', S', e', a, b, c, d⟩ => ⟨g', S', e', a, b, c, hQ _ _ d⟩⟩
theorem RSim.le : ClLe (RSim P w0) (RSim P w0) := fun _ _ _ _ _ hQ h => h.mono hQ
theorem RSim.code (hm : P.follows .mixedOrders = true) {f : FuncId} {fc : FnC} (hc : chkFn P f fc = true) {args : List V} {S : St} {Q : AEnd → St → Prop} (hn : args.length ≤ fc.ntmps)
  (h : wCode (RSim P w0) fc.body (frame0 args) S (bodyQ fc Q)) : RSim P w0 f args S Q := by
 unfold chkFn at hc
 split at hc <;> (try (cases hc; done))
 rename_i fn hfn
 split at hc <;> (try (cases hc; done))
 rename_i c hb
 simp only [Bool.and_eq_true, decide_eq_true_eq, Bool.not_eq_true'] at hc
 obtain ⟨⟨⟨h1, h2⟩, h3⟩, h4⟩ := hc
 refine ⟨⟨fn, hfn, by rw [hb]; rfl, h1⟩, fun g w us hW hr => ?_⟩
 refine calls_of_wp hfn hb ?_
 have hlen : us.length = args.length := hr.len.symm
 have hF : RelF g fc.ntmps (frame0 args) (us.toArray ++ Array.replicate (fn.ntmps - us.toArray.size) undef) := by
  refine ⟨by simp; omega, fun i hi => ?_⟩
  have e : (us.toArray ++ Array.replicate (fn.ntmps - us.toArray.size) undef).getD i undef = us.getD i undef := by
   simp only [Array.getD_eq_getD_getElem?, List.getD, Array.getElem?_append]
   split
   ·simp
   ·rename_i hh
    simp at hh
    rw [List.getElem?_eq_none hh, Array.getElem?_replicate]
    split <;> rfl
  rw [e]
  exact hr.getD i
 refine wp_mono (sim_code hm h4 (G.le.refl g) hW hF rfl h) fun e a' w' q => ?_
 cases e with
 | normal =>
  obtain ⟨hd, g', fr', S', hl, hW', hF', hk⟩ := q
  simp only [bodyQ] at hk
  split at hk <;> (try (cases hk; done))
  rename_i v hv
  obtain ⟨u, e1, k1⟩ := res_sim hW' hF' h3 hv
  exact ⟨hd, u, e1, g', S', .ret v, hl, hW', k1, hk⟩
 | ret =>
  obtain ⟨hd, g', fr', S', hl, hW', hF', hk⟩ := q
  simp only [bodyQ] at hk
  split at hk <;> (try (cases hk; done))
  rename_i v hv
  obtain ⟨u, e1, k1⟩ := res_sim hW' hF' h3 hv
  exact ⟨hd, u, e1, g', S', .ret v, hl, hW', k1, hk⟩
 | exit id =>
  obtain ⟨hd, g', fr', S', hl, hW', hF', hk⟩ := q
  exact hk.elim
 | goto l => exact q.elim
 | panic ch =>
  obtain ⟨hd, g', fr', S', v, u, rfl, hl, hW', k1, hk⟩ := q
  exact ⟨hd, g', S', .pan v, hl, hW', ⟨u, rfl, k1⟩, hk⟩
 | outgrown => exact q.elim
end
end Go.VM
namespace Go.VM
open Go Go.RowKit
theorem put_some (fr : Fr) (d : Nat) (v : V) (t : Nat) : Fr.put fr (some d) v t = if t = d then v else fr t := (rfl)
theorem put_none (fr : Fr) (v : V) : Fr.put fr none v = fr := (rfl)
abbrev fi (d : Nat) (i : FI) : Item := .run ⟨some d, none, .f i⟩
abbrev ei (d : Nat) (i : EI) : Item := .run ⟨some d, none, .e i⟩
abbrev st (i : EI) : Item := .run ⟨none, none, .e i⟩
def fr00 : Fr := fun _ => .tup []
theorem fr00_at (t : Nat) : fr00 t = .tup [] := (rfl)
theorem frame0_0 : frame0 [] = fr00 := by funext i; cases i <;> rfl
theorem frame0_1 (a : V) : frame0 [a] = fr00.put (some 0) a := by
 funext i; rcases i with _ | i <;> rfl
theorem frame0_2 (a b : V) : frame0 [a, b] = (fr00.put (some 0) a).put (some 1) b := by
 funext i; rcases i with _ | _ | i <;> rfl
theorem frame0_3 (a b c : V) : frame0 [a, b, c] = ((fr00.put (some 0) a).put (some 1) b).put (some 2) c := by
 funext i; rcases i with _ | _ | _ | i <;> rfl
theorem frame0_4 (a b c d : V) : frame0 [a, b, c, d] = (((fr00.put (some 0) a).put (some 1) b).put (some 2) c).put (some 3) d := by
 funext i; rcases i with _ | _ | _ | _ | i <;> rfl
theorem frame0_5 (a b c d e : V) : frame0 [a, b, c, d, e] = ((((fr00.put (some 0) a).put (some 1) b).put (some 2) c).put (some 3) d).put (some 4) e := by
 funext i; rcases i with _ | _ | _ | _ | _ | i <;> rfl
theorem St.add_n (S : St) (x : AObj) : (S.add x).n = S.n + 1 := (rfl)
theorem St.set_n (S : St) (i : Nat) (x : AObj) : (S.set i x).n = S.n := (rfl)
theorem St.kill_n (S : St) (i : Nat) : (S.kill i).n = S.n := (rfl)
theorem St.add_hp (S : St) (x : AObj) (i : Nat) : (S.add x).hp i = if i = S.n then some x else S.hp i := (rfl)
theorem St.set_hp (S : St) (i : Nat) (x : AObj) (j : Nat) : (S.set i x).hp j = if j = i then some x else S.hp j := (rfl)
theorem St.kill_hp (S : St) (i : Nat) (j : Nat) : (S.kill i).hp j = if j = i then none else S.hp j := (rfl)
structure St.Le (S S' : St) : Prop where
 n : S.n ≤ S'.n
 hp : ∀ i x, i < S.n → S.hp i = some x → S'.hp i = some x
theorem St.Le.refl (S : St) : S.Le S := ⟨Nat.le_refl _, fun _ _ _ h => h⟩
theorem St.Le.trans {A B C : St} (h : A.Le B) (k : B.Le C) : A.Le C := ⟨Nat.le_trans h.n k.n, fun i x hi hx => k.hp i x (Nat.lt_of_lt_of_le hi h.n) (h.hp i x hi hx)⟩
theorem St.le_add (S : St) (x : AObj) : S.Le (S.add x) := ⟨by simp [St.add], fun i y hi h => by
 rw [St.add_hp, if_neg (by omega)]; exact h⟩
theorem St.Le.add {A B : St} (h : A.Le B) (x : AObj) : A.Le (B.add x) := h.trans (St.le_add B x)
theorem St.Le.set {A B : St} (h : A.Le B) {i : Nat} (hi : A.n ≤ i) (x : AObj) : A.Le (B.set i x) := ⟨h.n, fun j y hj hy => by
 rw [St.set_hp, if_neg (by omega)]; exact h.hp j y hj hy⟩
theorem St.Le.kill {A B : St} (h : A.Le B) {i : Nat} (hi : A.n ≤ i) : A.Le (B.kill i) := ⟨h.n, fun j y hj hy => by
 rw [St.kill_hp, if_neg (by omega)]; exact h.hp j y hj hy⟩
def resQ (rs : List RV) (Q : AEnd → St → Prop) : CPost
 | .normal, fr, S | .ret, fr, S => match readRes fr S rs with
  | some v => Q (.ret v) S
  | none => False
 | .panic v, _, S => Q (.pan v) S
 | .exit _, _, _ => False
theorem resQ_normal (rs : List RV) (Q : AEnd → St → Prop) (fr : Fr) (S : St) : resQ rs Q .normal fr S = match readRes fr S rs with
  | some v => Q (.ret v) S
  | none => False := (rfl)
theorem resQ_ret (rs : List RV) (Q : AEnd → St → Prop) (fr : Fr) (S : St) : resQ rs Q .ret fr S = match readRes fr S rs with
  | some v => Q (.ret v) S
  | none => False := (rfl)
theorem resQ_panic (rs : List RV) (Q : AEnd → St → Prop) (fr : Fr) (S : St) (v : V) : resQ rs Q (.panic v) fr S = Q (.pan v) S := (rfl)
theorem RSim.run {P : Program} {w0 : World} {f : FuncId} {b : Cd} {rs : List RV} {n : Nat} (hm : P.follows .mixedOrders = true) (hc : chkFn P f ⟨b, rs, n⟩ = true) {args : List V} {S : St} {Q : AEnd → St → Prop}
  (h : wCode (RSim P w0) b (frame0 args) S (resQ rs Q)) (hn : args.length ≤ n) : RSim P w0 f args S Q := by
 refine RSim.code hm hc hn ?_
 have e : resQ rs Q = bodyQ ⟨b, rs, n⟩ Q := by
  funext e fr S
  cases e <;> rfl
 rw [← e]
 exact h
theorem thenQ_normal (K : Fr → St → Prop) (Q : CPost) (fr : Fr) (S : St) : thenQ K Q .normal fr S = K fr S := (rfl)
theorem thenQ_ret (K : Fr → St → Prop) (Q : CPost) (fr : Fr) (S : St) : thenQ K Q .ret fr S = Q .ret fr S := (rfl)
theorem thenQ_exit (K : Fr → St → Prop) (Q : CPost) (fr : Fr) (S : St) (i : Nat) : thenQ K Q (.exit i) fr S = Q (.exit i) fr S := (rfl)
theorem thenQ_panic (K : Fr → St → Prop) (Q : CPost) (fr : Fr) (S : St) (v : V) : thenQ K Q (.panic v) fr S = Q (.panic v) fr S := (rfl)
theorem blkQ_normal (id : Nat) (Q : CPost) (fr : Fr) (S : St) : blkQ id Q .normal fr S = Q .normal fr S := (rfl)
theorem blkQ_ret (id : Nat) (Q : CPost) (fr : Fr) (S : St) : blkQ id Q .ret fr S = Q .ret fr S := (rfl)
theorem blkQ_panic (id : Nat) (Q : CPost) (fr : Fr) (S : St) (v : V) : blkQ id Q (.panic v) fr S = Q (.panic v) fr S := (rfl)
theorem blkQ_exit (id i : Nat) (Q : CPost) (fr : Fr) (S : St) : blkQ id Q (.exit i) fr S = if i = id then Q .normal fr S else Q (.exit i) fr S := (rfl)
theorem loop_rule {cl : Cl} (hcl : ClLe cl cl) {c : Cd} {Q : CPost} (I : Nat → Fr → St → Prop) (step : ∀ k fr S, I k fr S → wCode cl c fr S (thenQ (fun fr' S' => ∃ k', k' < k ∧ I k' fr' S') Q)) {k : Nat} {fr : Fr} {S : St} (h : I k fr S) :
  wCode cl (.loop c) fr S Q := by
 induction k using Nat.strongRecOn generalizing fr S with
 | _ k ih =>
  refine Loop.fold hcl (wCode_mono hcl c fr S _ _ (fun e fr' S' q => ?_) (step k fr S h))
  cases e with
  | normal => obtain ⟨k', h1, h2⟩ := q; exact ih k' h1 h2
  | ret => exact q
  | exit => exact q
  | panic => exact q
section
variable {cl : Cl} {fr : Fr} {S : St} {K : Fr → St → Prop} {Kp : V → St → Prop} {Q : CPost}
theorem wi_nil : wItems cl [] fr S K Kp = K fr S := (rfl)
theorem wi_f (dst : Option Nat) (i : FI) (r : List Item) : wItems cl (.run ⟨dst, none, .f i⟩ :: r) fr S K Kp = match aF i fr S with
  | some v => wItems cl r (fr.put dst v) S K Kp
  | none => False := (rfl)
theorem wi_fgt (dst : Option Nat) (t : Nat) (w : Bool) (i : FI) (r : List Item) (h : wanted fr (some (t, w)) = some true) : wItems cl (.run ⟨dst, some (t, w), .f i⟩ :: r) fr S K Kp = match aF i fr S with
  | some v => wItems cl r (fr.put dst v) S K Kp
  | none => False := by
 simp only [wItems, wItem, h]
 cases aF i fr S <;> rfl
theorem wi_fgf (dst : Option Nat) (t : Nat) (w : Bool) (i : FI) (r : List Item) (h : wanted fr (some (t, w)) = some false) : wItems cl (.run ⟨dst, some (t, w), .f i⟩ :: r) fr S K Kp = wItems cl r (fr.put dst (.tup [])) S K Kp := by
 simp only [wItems, wItem, h]
theorem wi_alloc (dst : Option Nat) (z : List V) (r : List Item) : wItems cl (.run ⟨dst, none, .e (.alloc z)⟩ :: r) fr S K Kp = wItems cl r (fr.put dst (.ptr (some (S.n, 0)))) (S.add (.cells z)) K Kp := (rfl)
theorem wi_box (dst : Option Nat) (x : Arg) (r : List Item) : wItems cl (.run ⟨dst, none, .e (.box x)⟩ :: r) fr S K Kp = ((x.ev fr).cells.all V.one = true ∧ wItems cl r (fr.put dst (.ptr (some (S.n, 0)))) (S.add (.cells (x.ev fr).cells)) K Kp) := (rfl)
theorem wi_store (dst : Option Nat) (sz : Nat) (a x : Arg) (r : List Item) : wItems cl (.run ⟨dst, none, .e (.store sz a x)⟩ :: r) fr S K Kp = match a.ev fr with
  | .ptr (some (i, off)) =>
   (match S.cells i with
   | some cs => (x.ev fr).cells.length = sz ∧ (x.ev fr).cells.all V.one = true ∧ off + sz ≤ cs.length ∧ wItems cl r (fr.put dst (.tup [])) (S.set i (.cells (splice cs off (x.ev fr).cells))) K Kp
   | none => False)
  | _ => False := (rfl)
theorem wi_bs0 (dst : Option Nat) (n sz : Nat) (z : List V) (ps : List (Nat × Nat × Arg)) (r : List Item) : wItems cl (.run ⟨dst, none, .e (.buildSlice n sz 0 z ps)⟩ :: r) fr S K Kp = match fillV fr z ps with
  | some cs => wItems cl r (fr.put dst (.sl cs n sz .cap)) S K Kp
  | none => False := by
 simp only [wItems, wItem, wanted, wE]
 cases fillV fr z ps <;> rfl
theorem wi_bs2 (dst : Option Nat) (n sz : Nat) (z : List V) (ps : List (Nat × Nat × Arg)) (r : List Item) : wItems cl (.run ⟨dst, none, .e (.buildSlice n sz 2 z ps)⟩ :: r) fr S K Kp = match fillV fr z ps with
  | some cs => wItems cl r (fr.put dst (.sl cs n sz (.at S.n))) (S.add .tok) K Kp
  | none => False := by
 simp only [wItems, wItem, wanted, wE]
 cases fillV fr z ps <;> rfl
theorem wi_chk (d : Nat) (i : FI) (r : List Item) : wItems cl (.chk d none i :: r) fr S K Kp = (aF i fr S = some (fr d) ∧ wItems cl r fr S K Kp) := (rfl)
theorem wi_chkt (d t : Nat) (w : Bool) (i : FI) (r : List Item) (h : wanted fr (some (t, w)) = some true) : wItems cl (.chk d (some (t, w)) i :: r) fr S K Kp = (aF i fr S = some (fr d) ∧ wItems cl r fr S K Kp) := by
 simp only [wItems, wItem, h]
theorem wi_chkf (d t : Nat) (w : Bool) (i : FI) (r : List Item) (h : wanted fr (some (t, w)) = some false) : wItems cl (.chk d (some (t, w)) i :: r) fr S K Kp = wItems cl r fr S K Kp := by
 simp only [wItems, wItem, h]
theorem wi_e {dst : Option Nat} {i : EI} {r : List Item} (h : wE cl i fr S (fun v S' => wItems cl r (fr.put dst v) S' K Kp) Kp) : wItems cl (.run ⟨dst, none, .e i⟩ :: r) fr S K Kp := by
 simp only [wItems, wItem, wanted]
 exact h
theorem wi_egt (dst : Option Nat) (t : Nat) (w : Bool) (i : EI) (r : List Item) (h : wanted fr (some (t, w)) = some true) : wItems cl (.run ⟨dst, some (t, w), .e i⟩ :: r) fr S K Kp = wItems cl (.run ⟨dst, none, .e i⟩ :: r) fr S K Kp := by
 have e : wanted fr none = some true := rfl
 simp only [wItems, wItem, h, e]
theorem wi_egf (dst : Option Nat) (t : Nat) (w : Bool) (i : EI) (r : List Item) (h : wanted fr (some (t, w)) = some false) : wItems cl (.run ⟨dst, some (t, w), .e i⟩ :: r) fr S K Kp = wItems cl r (fr.put dst (.tup [])) S K Kp := by
 simp only [wItems, wItem, h]
def retQ (K Kp : V → St → Prop) : AEnd → St → Prop
 | .ret v, S => K v S
 | .pan v, S => Kp v S
theorem retQ_ret (K Kp : V → St → Prop) (v : V) (S : St) : retQ K Kp (.ret v) S = K v S := (rfl)
theorem retQ_pan (K Kp : V → St → Prop) (v : V) (S : St) : retQ K Kp (.pan v) S = Kp v S := (rfl)
theorem wi_call {dst : Option Nat} {f : FuncId} {args : List Arg} {r : List Item} (h : cl f (args.map (Arg.ev fr)) S (retQ (fun v S' => wItems cl r (fr.put dst v) S' K Kp) Kp)) : wItems cl (.run ⟨dst, none, .e (.call f args)⟩ :: r) fr S K Kp := by
 refine wi_e ?_
 have e : retQ (fun v S' => wItems cl r (fr.put dst v) S' K Kp) Kp = (fun | .ret v, S' => wItems cl r (fr.put dst v) S' K Kp | .pan v, S' => Kp v S') := by
  funext e S'
  cases e <;> rfl
 rw [e] at h
 exact h
theorem wc_skip : wCode cl .skip fr S Q = Q .normal fr S := (rfl)
theorem wc_reg (ord : List Nat) (items : List Item) : wCode cl (.reg ord items) fr S Q = wItems cl items fr S (Q .normal) (fun v S' => Q (.panic v) fr S') := (rfl)
def seqQ (cl : Cl) (b : Cd) (Q : CPost) : CPost := thenQ (fun fr' S' => wCode cl b fr' S' Q) Q
theorem seqQ_normal (b : Cd) : seqQ cl b Q .normal fr S = wCode cl b fr S Q := (rfl)
theorem seqQ_ret (b : Cd) : seqQ cl b Q .ret fr S = Q .ret fr S := (rfl)
theorem seqQ_exit (b : Cd) (i : Nat) : seqQ cl b Q (.exit i) fr S = Q (.exit i) fr S := (rfl)
theorem seqQ_panic (b : Cd) (v : V) : seqQ cl b Q (.panic v) fr S = Q (.panic v) fr S := (rfl)
theorem wc_seq (a b : Cd) : wCode cl (.seq a b) fr S Q = wCode cl a fr S (seqQ cl b Q) := (rfl)
theorem wc_blk (id : Nat) (c : Cd) : wCode cl (.blk id c) fr S Q = wCode cl c fr S (blkQ id Q) := (rfl)
theorem wc_exit (id : Nat) : wCode cl (.exit id) fr S Q = Q (.exit id) fr S := (rfl)
theorem wc_ret : wCode cl .ret fr S Q = Q .ret fr S := (rfl)
theorem wc_ite {c : Arg} {x y : Cd} {b : Bool} (hc : c.ev fr = .bool b) (ht : b = true → wCode cl x fr S Q) (hf : b = false → wCode cl y fr S Q) : wCode cl (.ite c x y) fr S Q := by
 simp only [wCode, hc]
 cases b
 ·exact hf rfl
 ·exact ht rfl
end
structure Keeps (o : Nat → Prop) (S S' : St) : Prop where
 n : S.n ≤ S'.n
 hp : ∀ i, i < S.n → ¬ o i → S'.hp i = S.hp i
theorem Keeps.refl (o : Nat → Prop) (S : St) : Keeps o S S := ⟨Nat.le_refl _, fun _ _ _ => rfl⟩
theorem Keeps.trans {o o' : Nat → Prop} {A B C : St} (h : Keeps o A B) (k : Keeps o' B C) (ho : ∀ i, i < A.n → o' i → o i) : Keeps o A C :=
 ⟨Nat.le_trans h.n k.n, fun i hi hn => (k.hp i (Nat.lt_of_lt_of_le hi h.n) fun h' => hn (ho i hi h')).trans (h.hp i hi hn)⟩
theorem Keeps.mono {o o' : Nat → Prop} {A B : St} (h : Keeps o A B) (ho : ∀ i, i < A.n → o i → o' i) : Keeps o' A B := ⟨h.n, fun i hi hn => h.hp i hi fun h' => hn (ho i hi h')⟩
theorem Keeps.add {o : Nat → Prop} {A B : St} (h : Keeps o A B) (x : AObj) : Keeps o A (B.add x) := ⟨Nat.le_trans h.n (by simp [St.add]), fun i hi hn => by
 rw [St.add_hp, if_neg (by have := h.n; omega)]; exact h.hp i hi hn⟩
theorem Keeps.set {o : Nat → Prop} {A B : St} (h : Keeps o A B) {i : Nat} (hi : o i ∨ A.n ≤ i) (x : AObj) : Keeps o A (B.set i x) := ⟨h.n, fun j hj hn => by
 rw [St.set_hp, if_neg]
 ·exact h.hp j hj hn
 ·rintro rfl
  rcases hi with hi | hi
  ·exact hn hi
  ·omega⟩
theorem Keeps.kill {o : Nat → Prop} {A B : St} (h : Keeps o A B) {i : Nat} (hi : o i ∨ A.n ≤ i) : Keeps o A (B.kill i) := ⟨h.n, fun j hj hn => by
 rw [St.kill_hp, if_neg]
 ·exact h.hp j hj hn
 ·rintro rfl
  rcases hi with hi | hi
  ·exact hn hi
  ·omega⟩
def TokOk (S : St) : Tok → Prop
 | .nil | .cap => True
 | .at k => k < S.n ∧ S.hp k = some .tok
 | .no => False
def tokOwn (t : Tok) : Nat → Prop := fun j => t = .at j
theorem TokOk.keep {o : Nat → Prop} {S S' : St} {t : Tok} (h : TokOk S t) (k : Keeps o S S') (hn : ∀ j, t = .at j → ¬ o j) : TokOk S' t := by
 cases t with
 | «at» q => exact ⟨Nat.lt_of_lt_of_le h.1 k.n, (k.hp q h.1 (hn q rfl)).trans h.2⟩
 | nil => trivial
 | cap => trivial
 | no => exact h
theorem app_ok {S : St} {sz bytes m n : Nat} {xs cs : List V} {t : Tok} (hl : xs.length = m * sz) (hr : roomOk (n + m) bytes = true) (ht : TokOk S t) (hnil : t = .nil → cs = [] ∧ n = 0) :
  ∃ t' S', appendTo S sz bytes false m xs (.sl cs n sz t) = some (.sl (cs ++ xs) (n + m) sz t', S') ∧ Keeps (tokOwn t) S S' ∧ TokOk S' t' ∧ (∀ j, t' = .at j → S.n ≤ j) ∧ (t' = .nil → m = 0 ∧ t = .nil) := by
 have hx : m = 0 → xs = [] := fun h => List.eq_nil_of_length_eq_zero (by rw [hl, h]; simp)
 have hg : ∀ S1 : St, Keeps (tokOwn t) S S1 → S1.n = S.n → ∃ t' S', some (grown S1 false (cs ++ xs) (n + m) sz) = some (.sl (cs ++ xs) (n + m) sz t', S') ∧ Keeps (tokOwn t) S S' ∧ TokOk S' t' ∧ (∀ j, t' = .at j → S.n ≤ j) ∧ (t' = .nil → m = 0 ∧ t = .nil) := fun S1 k e =>
  ⟨.at S1.n, S1.add .tok, by simp [grown], k.add _, ⟨by simp [St.add], by simp [St.add]⟩, fun j hj => by injection hj with hj; omega, fun h => by cases h⟩
 cases t with
 | nil =>
  simp only [appendTo, hl, hr, ne_eq, not_true_eq_false, false_and, Bool.true_eq_false, or_self, ↓reduceIte]
  split
  ·rename_i h0
   exact ⟨.nil, S, by simp [hx h0, h0], Keeps.refl _ _, trivial, fun j hj => (by cases hj), fun _ => ⟨h0, trivial⟩⟩
  ·obtain ⟨t', S', a, b, c, d, e⟩ := hg S (Keeps.refl _ _) rfl
   exact ⟨t', S', a, b, c, d, fun h => ⟨(e h).1, trivial⟩⟩
 | cap =>
  simp only [appendTo, hl, hr, ne_eq, not_true_eq_false, and_false, Bool.true_eq_false, or_self, ↓reduceIte]
  split
  ·rename_i h0
   exact ⟨.cap, S, by simp [hx h0, h0], Keeps.refl _ _, trivial, fun j hj => (by cases hj), fun h => by cases h⟩
  ·exact hg S (Keeps.refl _ _) rfl
 | «at» q =>
  simp only [appendTo, hl, hr, ht.2, ne_eq, not_true_eq_false, and_false, Bool.true_eq_false, or_self, Bool.false_eq_true, ↓reduceIte]
  exact hg (S.kill q) ((Keeps.refl _ _).kill (.inl rfl)) rfl
 | no => exact absurd ht id
theorem wi_append {cl : Cl} {fr : Fr} {S : St} {K : Fr → St → Prop} {Kp : V → St → Prop} {dst : Option Nat} {sz bytes : Nat} {s x : Arg} {r : List Item} {cs xs : List V} {n m : Nat} {t : Tok}
  (hs : s.ev fr = .sl cs n sz t) (hx : (x.ev fr).elems S sz = some (m, xs)) (hl : xs.length = m * sz) (hr : roomOk (n + m) bytes = true) (ht : TokOk S t) (hnil : t = .nil → cs = [] ∧ n = 0)
  (hK : ∀ t' S', Keeps (tokOwn t) S S' → TokOk S' t' → (∀ j, t' = .at j → S.n ≤ j) → (t' = .nil → m = 0 ∧ t = .nil) → wItems cl r (fr.put dst (.sl (cs ++ xs) (n + m) sz t')) S' K Kp) :
  wItems cl (.run ⟨dst, none, .e (.append sz bytes false s x)⟩ :: r) fr S K Kp := by
 refine wi_e ?_
 obtain ⟨t', S', e, h1, h2, h3, h4⟩ := app_ok hl hr ht hnil
 simp only [wE, hx, hs, e]
 exact hK t' S' h1 h2 h3 h4
theorem V.one_bool (b : Bool) : V.one (.bool b) = true := (rfl)
theorem V.one_int (k : IntKind) (n : Int) : V.one (.int k n) = true := (rfl)
theorem V.one_str (b : ByteArray) : V.one (.str b) = true := (rfl)
theorem V.one_ptr (p : Option (Nat × Nat)) : V.one (.ptr p) = true := (rfl)
theorem V.one_sl (cs : List V) (n sz : Nat) (t : Tok) : V.one (.sl cs n sz t) = true := (rfl)
theorem V.one_msl (a b c d : Nat) : V.one (.msl a b c d) = true := (rfl)
theorem V.one_eptr (cs : List V) : V.one (.eptr cs) = true := (rfl)
theorem V.one_map (r : Option Nat) : V.one (.map r) = true := (rfl)
theorem V.one_iface (t : TypeId) (v : V) : V.one (.iface t v) = true := (rfl)
theorem cells_one {v : V} (h : v.one = true) : v.cells = [v] := by cases v <;> first | rfl | cases h
theorem V.cells_agg (cs : List V) : V.cells (.agg cs) = cs := (rfl)
theorem V.cells_bool (b : Bool) : V.cells (.bool b) = [.bool b] := (rfl)
theorem V.cells_int (k : IntKind) (n : Int) : V.cells (.int k n) = [.int k n] := (rfl)
theorem V.cells_str (b : ByteArray) : V.cells (.str b) = [.str b] := (rfl)
theorem V.cells_ptr (p : Option (Nat × Nat)) : V.cells (.ptr p) = [.ptr p] := (rfl)
theorem V.cells_sl (cs : List V) (n sz : Nat) (t : Tok) : V.cells (.sl cs n sz t) = [.sl cs n sz t] := (rfl)
theorem V.cells_msl (a b c d : Nat) : V.cells (.msl a b c d) = [.msl a b c d] := (rfl)
theorem V.cells_map (r : Option Nat) : V.cells (.map r) = [.map r] := (rfl)
theorem cells_addc (S : St) (cs : List V) (i : Nat) : (S.add (.cells cs)).cells i = if i = S.n then some cs else S.cells i := by
 simp only [St.cells, St.add_hp]; by_cases h : i = S.n <;> simp [h]
theorem cells_addt (S : St) (i : Nat) : (S.add .tok).cells i = if i = S.n then none else S.cells i := by
 simp only [St.cells, St.add_hp]; by_cases h : i = S.n <;> simp [h]
theorem cells_setc (S : St) (j : Nat) (cs : List V) (i : Nat) : (S.set j (.cells cs)).cells i = if i = j then some cs else S.cells i := by
 simp only [St.cells, St.set_hp]; by_cases h : i = j <;> simp [h]
theorem takeC_false (sz : Nat) (cs : List V) : takeC false sz cs = cs.head? := (rfl)
theorem takeC_true (sz : Nat) (cs : List V) : takeC true sz cs = if sz ≤ cs.length then some (.agg (cs.take sz)) else none := (rfl)
theorem Keeps.cells {o : Nat → Prop} {A B : St} (h : Keeps o A B) {i : Nat} {cs : List V} (hi : A.cells i = some cs) (hlt : i < A.n) (hn : ¬ o i) : B.cells i = some cs := by
 unfold St.cells at *
 rw [h.hp i hlt hn]; exact hi
theorem Keeps.lt {o : Nat → Prop} {A B : St} (h : Keeps o A B) {i : Nat} (hi : i < A.n) : i < B.n := Nat.lt_of_lt_of_le hi h.n
theorem TokOk.not_own {S : St} {t : Tok} (h : TokOk S t) {i : Nat} {cs : List V} (hi : S.cells i = some cs) : ¬ tokOwn t i := by
 intro e
 unfold tokOwn at e
 subst e
 unfold St.cells at hi
 rw [h.2] at hi
 cases hi
theorem TokOk.lt {S : St} {j : Nat} (h : TokOk S (.at j)) : j < S.n := h.1
theorem readRes_0 (fr : Fr) (S : St) : readRes fr S [] = some (.tup []) := (rfl)
theorem readRes_1 (fr : Fr) (S : St) (a : RV) : readRes fr S [a] = readRV fr S a := (rfl)
theorem readRes_2 (fr : Fr) (S : St) (a b : RV) : readRes fr S [a, b] = (readRV fr S a).bind fun x => (readRV fr S b).bind fun y => some (.tup [x, y]) := by
 cases h1 : readRV fr S a <;> cases h2 : readRV fr S b <;> simp [readRes, h1, h2]
theorem readRes_3 (fr : Fr) (S : St) (a b c : RV) : readRes fr S [a, b, c] = (readRV fr S a).bind fun x => (readRV fr S b).bind fun y => (readRV fr S c).bind fun z => some (.tup [x, y, z]) := by
 cases h1 : readRV fr S a <;> cases h2 : readRV fr S b <;> cases h3 : readRV fr S c <;> simp [readRes, h1, h2, h3]
theorem beq_tf : (true == false) = false := (rfl)
theorem beq_ft : (false == true) = false := (rfl)
theorem beq_tt : (true == true) = true := (rfl)
theorem beq_ff : (false == false) = true := (rfl)
theorem sliceV_sl (fr : Fr) (sz : Nat) (lo hi mx : Option Arg) (cs : List V) (n sz' : Nat) (t : Tok) : sliceV fr sz lo hi mx (.sl cs n sz' t) = (bounds fr n lo hi).bind fun q =>
  if t = .nil then (if mx.isSome then (if (mx.bind fun a => (a.ev fr).idx) = some q.2 then some (.sl cs n sz' t) else none) else some (.sl cs n sz' t))
  else if sz' ≠ sz then none
  else
   let cut := (cs.drop (q.1 * sz)).take ((q.2 - q.1) * sz)
   match mx with
   | some a => if (a.ev fr).idx = some q.2 then some (.sl cut (q.2 - q.1) sz .cap) else none
   | none => some (.sl cut (q.2 - q.1) sz (if q.2 = n then t else .no)) := (rfl)
theorem sliceV_msl (fr : Fr) (sz : Nat) (lo hi mx : Option Arg) (o off n sz' : Nat) : sliceV fr sz lo hi mx (.msl o off n sz') = (bounds fr n lo hi).bind fun q =>
  if sz' ≠ sz ∨ mx.isSome then none
  else if q.2 = q.1 then some (.sl [] 0 sz .no)
  else some (.msl o (off + q.1 * sz) (q.2 - q.1) sz) := (rfl)
theorem bounds_no (fr : Fr) (n : Nat) : bounds fr n none none = some (0, n) := by simp [bounds]
theorem bounds_hi (fr : Fr) (n : Nat) (a : Arg) : bounds fr n none (some a) = (a.ev fr).idx.bind fun h => if h ≤ n then some (0, h) else none := by
 cases h : (a.ev fr).idx <;> simp [bounds, h]
theorem bounds_lo (fr : Fr) (n : Nat) (a : Arg) : bounds fr n (some a) none = (a.ev fr).idx.bind fun l => if l ≤ n then some (l, n) else none := by
 cases h : (a.ev fr).idx <;> simp [bounds, h]
theorem bounds_lh (fr : Fr) (n : Nat) (a b : Arg) : bounds fr n (some a) (some b) = (a.ev fr).idx.bind fun l => (b.ev fr).idx.bind fun h => if l ≤ h ∧ h ≤ n then some (l, h) else none := by
 cases h : (a.ev fr).idx <;> cases h' : (b.ev fr).idx <;> simp [bounds, h, h']
theorem Keeps.set1 (S : St) (i : Nat) (x : AObj) : Keeps (fun j => j = i) S (S.set i x) := (Keeps.refl (fun j => j = i) S).set (.inl (show i = i from rfl)) x
theorem some_ite {α : Type} (c : Prop) [Decidable c] (a b : α) : (if c then some a else some b) = some (if c then a else b) := by split <;> rfl
end Go.VM
namespace Go.VM
open Go Go.RowKit
def u8V (b : UInt8) : V := .int .u8 b.toNat
def IsBytes (v : V) (bs : List UInt8) : Prop := ∃ t, v = .sl (bs.map u8V) bs.length 1 t ∧ (t = .nil → bs = [])
theorem IsBytes.elems {v : V} {bs : List UInt8} (h : IsBytes v bs) (S : St) : v.elems S 1 = some (bs.length, bs.map u8V) := by
 obtain ⟨t, rfl, ht⟩ := h
 simp only [V.elems]
 split
 ·rename_i e; rw [ht e]; rfl
 ·rfl
theorem IsBytes.one {v : V} {bs : List UInt8} (h : IsBytes v bs) : v.one = true := by obtain ⟨t, rfl, _⟩ := h; rfl
theorem isBytes_nil : IsBytes (.sl [] 0 1 .nil) [] := ⟨.nil, rfl, fun _ => rfl⟩
theorem bytesOf_u8 : ∀ bs : List UInt8, bytesOf (bs.map u8V) = some bs
 | [] => rfl
 | b :: bs => by simp [u8V, bytesOf, bytesOf_u8 bs]
theorem IsBytes.conv {v : V} {bs : List UInt8} (h : IsBytes v bs) (S : St) : V.conv S .bytesStr v = some (.str ⟨bs.toArray⟩) := by
 have e := h.elems S
 obtain ⟨t, rfl, _⟩ := h
 simp only [V.conv, e, Option.bind_some, bytesOf_u8, Option.map_some]
theorem IsBytes.len {v : V} {bs : List UInt8} (h : IsBytes v bs) : ∃ cs t, v = .sl cs bs.length 1 t := by
 obtain ⟨t, rfl, _⟩ := h; exact ⟨_, _, rfl⟩
theorem flat_drop {sz : Nat} : ∀ {L : List (List V)} (j : Nat), (∀ c ∈ L, c.length = sz) → L.flatten.drop (j * sz) = (L.drop j).flatten
 | [], j, _ => by simp
 | c :: L, 0, h => by simp
 | c :: L, j + 1, h => by
  have h1 := h c (by simp)
  have h2 := flat_drop (L := L) j fun x hx => h x (by simp [hx])
  have e : (j + 1) * sz = c.length + j * sz := by rw [h1, Nat.add_mul, Nat.one_mul]; omega
  rw [List.flatten_cons, e, List.drop_append, List.drop_of_length_le (by omega), Nat.add_sub_cancel_left, List.nil_append, h2]
  rfl
theorem flat_at {sz : Nat} {L : List (List V)} {j : Nat} {c : List V} (h : ∀ c ∈ L, c.length = sz) (hc : L[j]? = some c) : (L.flatten.drop (j * sz)).take sz = c ∧ sz ≤ (L.flatten.drop (j * sz)).length := by
 have hj := (List.getElem?_eq_some_iff.1 hc).1
 have hcl := h c (List.mem_of_getElem? hc)
 rw [flat_drop j h, List.drop_eq_getElem_cons hj]
 have e : L[j] = c := (List.getElem?_eq_some_iff.1 hc).2
 rw [e, List.flatten_cons]
 constructor
 ·rw [← hcl]; simp
 ·simp; omega
theorem flat_get {sz : Nat} {L : List (List V)} {j : Nat} {c : List V} (h : ∀ c ∈ L, c.length = sz) (hc : L[j]? = some c) : takeC true sz (L.flatten.drop (j * sz)) = some (.agg c) := by
 obtain ⟨h1, h2⟩ := flat_at h hc
 simp only [takeC, if_true]
 rw [if_pos h2, h1]
structure IsSlice {α : Type} (R : List V → α → Prop) (sz : Nat) (v : V) (l : List α) (t : Tok) where
 ex : ∃ L : List (List V), v = .sl L.flatten l.length sz t ∧ (t = .nil → l = []) ∧ (∀ c ∈ L, c.length = sz) ∧ L.length = l.length ∧ ∀ (j : Nat) (c : List V) (x : α), L[j]? = some c → l[j]? = some x → R c x
theorem IsSlice.one {α : Type} {R : List V → α → Prop} {sz : Nat} {v : V} {l : List α} {t : Tok} (h : IsSlice R sz v l t) : v.one = true := by
 obtain ⟨L, rfl, _⟩ := h.ex; rfl
theorem IsSlice.len {α : Type} {R : List V → α → Prop} {sz : Nat} {v : V} {l : List α} {t : Tok} (h : IsSlice R sz v l t) : ∃ cs, v = .sl cs l.length sz t := by
 obtain ⟨L, rfl, _⟩ := h.ex; exact ⟨_, rfl⟩
theorem IsSlice.at_ {α : Type} {R : List V → α → Prop} {sz : Nat} {v : V} {l : List α} {t : Tok} (h : IsSlice R sz v l t) {j : Nat} {x : α} (hx : l[j]? = some x) :
  ∃ cs c, v = .sl cs l.length sz t ∧ t ≠ .nil ∧ j < l.length ∧ takeC true sz (cs.drop (j * sz)) = some (.agg c) ∧ c.length = sz ∧ (cs.drop (j * sz)).take sz = c ∧ R c x := by
 obtain ⟨L, rfl, hn, hs, hl, hR⟩ := h.ex
 have hj := (List.getElem?_eq_some_iff.1 hx).1
 have hc : L[j]? = some (L[j]'(by omega)) := List.getElem?_eq_getElem (by omega)
 exact ⟨_, _, rfl, fun e => by rw [hn e] at hj; simp at hj, hj, flat_get hs hc, hs _ (List.getElem_mem _), (flat_at hs hc).1, hR j _ x hc hx⟩
theorem w64 {x : Int} (h1 : -9223372036854775808 ≤ x) (h2 : x < 9223372036854775808) : IntKind.i64.wrap x = x := by
 rw [IntKind.wrap_i64]; omega
theorem wu64 {x : Int} (h1 : 0 ≤ x) (h2 : x < 18446744073709551616) : IntKind.u64.wrap x = x := by
 rw [IntKind.wrap_u64]; omega
theorem wu8 {x : Int} (h1 : 0 ≤ x) (h2 : x < 256) : IntKind.u8.wrap x = x := by
 rw [IntKind.wrap_u8]; omega
end Go.VM
namespace Go.VM
open Go Go.RowKit
def mkS (l : List UInt8) : ByteArray := ⟨l.toArray⟩
theorem mkS_toList (l : List UInt8) : (mkS l).toList = l := by simp [mkS, ByteArray.toList_mk]
theorem mkS_of (s : ByteArray) : ∃ l, s = mkS l := ⟨s.data.toList, by cases s; simp [mkS]⟩
theorem mkS_size (l : List UInt8) : (mkS l).size = l.length := (rfl)
theorem mkS_get (l : List UInt8) (j : Nat) : (mkS l)[j]? = l[j]? := by
 by_cases h : j < l.length
 ·rw [List.getElem?_eq_getElem h]
  rw [getElem?_pos (mkS l) j h]
  rfl
 ·rw [List.getElem?_eq_none (by omega)]
  exact getElem?_neg (mkS l) j h
theorem mkS_append (a b : List UInt8) : mkS a ++ mkS b = mkS (a ++ b) := by
 apply ByteArray.ext
 simp [mkS]
theorem bytesLess_lt : ∀ x y : List UInt8, Op.bytesLess x y = decide (x < y)
 | [], [] => by simp [Op.bytesLess]
 | [], y :: ys => by simp [Op.bytesLess]
 | x :: xs, [] => by simp [Op.bytesLess]
 | x :: xs, y :: ys => by
  rw [Op.bytesLess, bytesLess_lt xs ys]
  simp only [List.cons_lt_cons_iff]
  by_cases h : x < y
  ·simp [h]
  ·by_cases h2 : x = y
   ·subst h2; simp
   ·simp [h, h2]
theorem toList_beq (a b : List UInt8) : ((mkS a).toList == (mkS b).toList) = decide (a = b) := by
 rw [mkS_toList, mkS_toList]
 by_cases h : a = b <;> simp [h]
theorem str_eql (a b : List UInt8) : binStr .eql (mkS a) (mkS b) = some (.bool (decide (a = b))) := by simp only [binStr, toList_beq]
theorem str_neq (a b : List UInt8) : binStr .neq (mkS a) (mkS b) = some (.bool (!decide (a = b))) := by simp only [binStr, toList_beq]
theorem str_lss (a b : List UInt8) : binStr .lss (mkS a) (mkS b) = some (.bool (decide (a < b))) := by simp only [binStr, mkS_toList, bytesLess_lt]
theorem eqLs_nil : eqLs [] [] [] = some true := rfl
theorem eqLs_int (ks : List KK) (k : IntKind) (a b : Int) (cs ds : List V) : eqLs (.int :: ks) (.int k a :: cs) (.int k b :: ds) = if a = b then eqLs ks cs ds else some false := by
 have e : V.keyEq .int (.int k a) (.int k b) = some (decide (a = b)) := by
  simp only [V.keyEq, true_and, if_pos]; congr 1
 rw [eqLs, e]
 by_cases h : a = b
 ·rw [if_pos h, decide_eq_true h]
 ·rw [if_neg h, decide_eq_false h]
theorem eqLs_str (ks : List KK) (a b : List UInt8) (cs ds : List V) : eqLs (.str :: ks) (.str (mkS a) :: cs) (.str (mkS b) :: ds) = if a = b then eqLs ks cs ds else some false := by
 have e : V.keyEq .str (.str (mkS a)) (.str (mkS b)) = some (decide (a = b)) := by
  simp only [V.keyEq, if_pos]
  rw [beq_toListBytes, toList_beq]
 rw [eqLs, e]
 by_cases h : a = b
 ·rw [if_pos h, decide_eq_true h]
 ·rw [if_neg h, decide_eq_false h]
theorem eqLs_bool (ks : List KK) (a b : Bool) (cs ds : List V) : eqLs (.bool :: ks) (.bool a :: cs) (.bool b :: ds) = if a = b then eqLs ks cs ds else some false := by
 have e : V.keyEq .bool (.bool a) (.bool b) = some (decide (a = b)) := by
  cases a <;> cases b <;> rfl
 rw [eqLs, e]
 by_cases h : a = b
 ·rw [if_pos h, decide_eq_true h]
 ·rw [if_neg h, decide_eq_false h]
theorem str_add (a b : List UInt8) : binStr .add (mkS a) (mkS b) = if ((a.length + b.length : Nat) : Int) > 9223372036854775807 then none else some (.str (mkS (a ++ b))) := by
 simp only [binStr, mkS_size, mkS_append]; rfl
theorem str_add' {a b : List UInt8} (h : a.length + b.length ≤ 1000000000000) : binStr .add (mkS a) (mkS b) = some (.str (mkS (a ++ b))) := by
 rw [str_add, if_neg (by omega)]
theorem IsBytes.convS {v : V} {bs : List UInt8} (h : IsBytes v bs) (S : St) : V.conv S .bytesStr v = some (.str (mkS bs)) := h.conv S
theorem isKey_str (s : ByteArray) : V.isKey .str (.str s) = true := (rfl)
theorem isKey_int (k : IntKind) (n : Int) : V.isKey .int (.int k n) = true := (rfl)
theorem isKey_bool (b : Bool) : V.isKey .bool (.bool b) = true := (rfl)
theorem St.set_set (S : St) (i : Nat) (a b : AObj) : (S.set i a).set i b = S.set i b := by
 simp only [St.set, St.mk.injEq, and_true]
 funext j
 by_cases h : j = i <;> simp [h]
end Go.VM
