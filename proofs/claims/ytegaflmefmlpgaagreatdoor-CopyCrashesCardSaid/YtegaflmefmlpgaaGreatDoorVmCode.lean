/-
  The value machine: a code. Regions, sequences, conditions, blocks, loops.
  The value machine: a call. What a function's code does here, its call does in the model.
-/
import Derived.Test.YtegaflmefmlpgaaGreatDoorVmDraw
import Derived.Test.YtegaflmefmlpgaaGreatDoorVmDef
set_option linter.unusedVariables false
set_option linter.unusedSimpArgs false
namespace Go.VM
open Go Go.RowKit

/-- The region, with j behind i as well. -/
def addE (ops : Array Oper) (i j : Nat) : Array Oper := ops.mapIdx fun k o => if k = j then { o with after := o.after.push ⟨i, .phase⟩ } else o
/-- A region that draws its order: in each of the orders of some that act. -/
def chkAlt (P : Program) (n : Nat) : Array Oper → Cd → Bool
  | ops, .reg ord items => decide (ord.length = items.length) && chkDraw P n ops (ord.zip items)
  | ops, .alt i j a b => decide (i ≠ j) && chkAlt P n (addE ops i j) a && chkAlt P n (addE ops j i) b
  | _, _ => false
def chkCode (P : Program) (n : Nat) : Code → Cd → Bool
  | .skip, .skip => true
  | .region _ ops false, .reg [] items => chkPlain P n ops ops.toList items
  | .region _ ops true, .reg ord items => decide (ord.length = items.length) && chkDraw P n ops (ord.zip items)
  | .seq a b, .seq a' b' => chkCode P n a a' && chkCode P n b b'
  | .cond c a b, .ite c' a' b' => chkA n c c' && chkCode P n a a' && chkCode P n b b'
  | .block id c, .blk id' c' => decide (id = id') && chkCode P n c c'
  | .loop c, .loop c' => chkCode P n c c'
  | .exit id, .exit id' => decide (id = id')
  | .ret, .ret => true
  | .region _ ops true, .alt i j a b => chkAlt P n ops (.alt i j a b)
  | _, .stuck => true
  | _, _ => false

theorem chkSeq_lt {P : Program} {n : Nat} {B : List Nat} {ops : Array Oper} : ∀ {rest before : Seq}, chkSeq P n B ops before rest = true → ∀ i ∈ runsOf rest, i < ops.size
  | [], _, _, i, hi => by simp [runsOf] at hi
  | (j, x) :: rest, before, h, i, hi => by
    simp only [chkSeq, Bool.and_eq_true] at h
    cases x with
    | run oc =>
      rw [runsOf_run] at hi
      rcases List.mem_cons.1 hi with rfl | hi
      · have h1 := h.1
        simp only [Bool.and_eq_true] at h1
        have h2 := h1.1.1.1.1.1
        cases ho : ops[i]? with
        | none => rw [ho] at h2; cases h2
        | some o => exact (Array.getElem?_eq_some_iff.1 ho).1
      · exact chkSeq_lt h.2 i hi
    | chk d g fi =>
      rw [runsOf_chk] at hi
      exact chkSeq_lt h.2 i hi

theorem draw_ok {P : Program} {n : Nat} {ops : Array Oper} {q : Seq} (h : chkDraw P n ops q = true) : DOk P n ops (befs ops q) q ∧ chkSeq P n (befs ops q) ops [] q = true := by
  simp only [chkDraw, Bool.and_eq_true, decide_eq_true_eq] at h
  obtain ⟨⟨⟨⟨h1, h2⟩, h3⟩, h4⟩, h5⟩ := h
  refine ⟨⟨fun i hi => ?_, chkSeq_lt h5, h3, fun i o ho d hd => ?_, rfl⟩, h5⟩
  · simpa using List.all_eq_true.1 h2 i (by simpa using hi)
  · have := List.all_eq_true.1 h4 i (by simpa using (Array.getElem?_eq_some_iff.1 ho).1)
    rw [ho] at this
    simpa using List.all_eq_true.1 this d hd

section
variable {P : Program} {w0 : World} {n : Nat}

/-- Standing at the head of a loop again. -/
def AtLoop (P : Program) (c : Code) (Q : Exit → Act → World → Prop) (a : Act) (w : World) : Prop :=
  ∀ (b : Frame) (k : List Go.Item) (cs : List Frame), ∃ e a' w', Q e a' w' ∧ Arrives P (lone (b.at a (.inLoop c :: k)) cs w) b k cs e a' w'

theorem loop_round {c : Code} {Q : Exit → Act → World → Prop} {a : Act} {w : World} (h : c.wp P (Exit.then (AtLoop P c Q) Q) a w) (b : Frame) (k : List Go.Item) (cs : List Frame) :
    ∃ e a' w', Q e a' w' ∧ Arrives P (lone (b.at a (.code c :: .inLoop c :: k)) cs w) b k cs e a' w' := by
  obtain ⟨e, a₁, w₁, hq, harr⟩ := h b (.inLoop c :: k) cs
  cases e with
  | normal =>
    obtain ⟨e₂, a₂, w₂, hq₂, harr₂⟩ := hq b k cs
    exact ⟨e₂, a₂, w₂, hq₂, .of_steps harr harr₂⟩
  | exit id => exact ⟨_, a₁, w₁, hq, .pass (x := .inLoop c) rfl (fun _ _ => .inl (by simp)) harr⟩
  | goto l => exact ⟨_, a₁, w₁, hq, .pass (x := .inLoop c) rfl (fun _ _ => .inl (by simp)) harr⟩
  | ret => exact ⟨_, a₁, w₁, hq, .pass (x := .inLoop c) rfl (fun _ _ => .inl (by simp)) harr⟩
  | panic ch => exact ⟨_, a₁, w₁, hq, .pass (x := .inLoop c) rfl (fun _ _ => .inl (by simp)) harr⟩
  | outgrown => exact ⟨_, a₁, w₁, hq, .pass (x := .inLoop c) rfl (fun _ _ => .inl (by simp)) harr⟩

theorem atLoop_round {c : Code} {Q : Exit → Act → World → Prop} {a : Act} {w : World} (h : c.wp P (Exit.then (AtLoop P c Q) Q) a w) : AtLoop P c Q a w := fun b k cs =>
  let ⟨e, a', w', hq, r⟩ := loop_round h b k cs
  ⟨e, a', w', hq, .of_steps (.one step_inLoop) r⟩
theorem wp_loop_round {c : Code} {Q : Exit → Act → World → Prop} {a : Act} {w : World} (h : c.wp P (Exit.then (AtLoop P c Q) Q) a w) : (Code.loop c).wp P Q a w := fun b k cs =>
  let ⟨e, a', w', hq, r⟩ := loop_round h b k cs
  ⟨e, a', w', hq, .of_steps (.one step_loop) r⟩

theorem any_reg {ops : Array Oper} {ord : List Nat} {items : List Item} (hlen : ord.length = items.length) (hc : chkDraw P n ops (ord.zip items) = true) {g0 g : G} {fr : Fr} {S : St} {a : Act} {w : World} {Q : CPost}
    (hl : g0.le g) (hW : RelW w0 g S w) (hF : RelF g n fr a.tmps) (hd : a.defers = []) (h : wItems (RSim P w0) items fr S (Q .normal) (fun v S' => Q (.panic v) fr S')) :
    wpAny P .any ops (QRel w0 n g0 Q) ops.size (Array.replicate ops.size false) a { w with drawn := w.drawn + 1 } := by
  obtain ⟨hok, hseq⟩ := draw_ok hc
  have hno : ∀ j, lst (Array.replicate ops.size false) j = false := by
    intro j
    simp only [lst, Array.getD_eq_getD_getElem?]
    rw [Array.getElem?_replicate]
    split <;> rfl
  have hmixed : mixF ops (lst (Array.replicate ops.size false)) fr fr = fr := by
    funext t
    exact mix_no fun j _ _ => hno j
  have hfst : (ord.zip items).map (·.2) = items := by
    rw [List.map_snd_zip]
    omega
  have hinv : DInv P w0 n ops (befs ops (ord.zip items)) (ord.zip items) fr (Q .normal) (fun v S' => Q (.panic v) fr S') g0 (lst (Array.replicate ops.size false)) [] (ord.zip items) g fr S a { w with drawn := w.drawn + 1 } := by
    refine ⟨rfl, hseq, hl, hW.drawn, hd, (by rw [hfst]; exact h), fun i hi => ?_, fun x hx => (by cases hx), (by rw [hmixed]; exact hF), fun _ _ => rfl, fun i hi => (by simp [runsOf] at hi), fun i hi => (by simp [runsOf] at hi)⟩
    rw [hno] at hi; cases hi
  obtain ⟨done, rest, fr', hinv', hb⟩ := hinv.peel hok _ (Nat.le_refl _)
  refine sim_draw hok (fun _ _ h => h) (fun _ _ h => h) ops.size (by simp) ?_ ?_ hinv' hb
  · unfold leftN
    exact Nat.le_trans (List.length_filter_le _ _) (by simp)
  · intro i o _ hi
    rw [hno] at hi; cases hi

/-- An order that the region may take from here on. -/
def Takes (ops : Array Oper) : Array Bool → List Nat → Prop
  | l, [] => Region.ready .any ops l = []
  | l, i :: r => i ∈ Region.ready .any ops l ∧ Takes ops (l.setIfInBounds i true) r
theorem linear_takes {ops : Array Oper} : ∀ (fuel t : Nat) (l : Array Bool), l.size = ops.size → leftN ops (lst l) ≤ fuel → Takes ops l (Region.linearise.go .any ops fuel t l []) := by
  intro fuel
  induction fuel with
  | zero =>
    intro t l hl h
    simp only [Region.linearise.go, List.reverse_nil, Takes]
    rw [List.eq_nil_iff_forall_not_mem]
    intro i hi
    obtain ⟨h1, h2, _⟩ := (ready_iff hl).1 hi
    have := left_up (L := lst l) h1 h2
    omega
  | succ fuel ih =>
    intro t l hl h
    simp only [Region.linearise.go]
    change Takes ops l (match (Region.ready .any ops l)[t % (Region.ready .any ops l).length]? with
      | some i => Region.linearise.go .any ops fuel (t / (Region.ready .any ops l).length) (l.setIfInBounds i true) [i]
      | none => [].reverse)
    cases hi : (Region.ready .any ops l)[t % (Region.ready .any ops l).length]? with
    | none =>
      have hnil : Region.ready .any ops l = [] := by
        cases hr : Region.ready .any ops l with
        | nil => rfl
        | cons x xs =>
          rw [hr] at hi
          have hlt : t % (x :: xs).length < (x :: xs).length := Nat.mod_lt _ (by simp)
          simp at hi
          simp at hlt
          omega
      exact hnil
    | some i =>
      simp only []
      rw [linearise_go_acc, List.reverse_singleton, List.singleton_append]
      have hm := List.mem_of_getElem? hi
      obtain ⟨h1, h2, _⟩ := (ready_iff hl).1 hm
      refine ⟨hm, ih _ _ (by simpa using hl) ?_⟩
      rw [lst_set (by omega)]
      have := left_up (L := lst l) h1 h2
      omega
theorem takes_sound {ops : Array Oper} {Q : Exit → Act → World → Prop} : ∀ (ord : List Nat) (fuel : Nat) (l : Array Bool) (a : Act) (w : World), wpAny P .any ops Q fuel l a w → Takes ops l ord → wpOps P ops Q ord a w
  | [], 0, l, a, w, h, ht => h.2
  | [], fuel + 1, l, a, w, h, ht => h.1 ht
  | i :: r, 0, l, a, w, h, ht => by
    have := ht.1
    rw [h.1] at this
    cases this
  | i :: r, fuel + 1, l, a, w, h, ht => by
    rw [wpOps_cons]
    exact wpOp_mono (fun a w hh => takes_sound r fuel _ a w hh ht.2) (h.2 i ht.1)

theorem addE_size (ops : Array Oper) (i j : Nat) : (addE ops i j).size = ops.size := by simp [addE]
theorem addE_get (ops : Array Oper) (i j k : Nat) : (addE ops i j)[k]? = (ops[k]?).map fun o => if k = j then { o with after := o.after.push ⟨i, .phase⟩ } else o := by
  simp only [addE, Array.getElem?_mapIdx]
theorem depsOf_push (o : Oper) (i d : Nat) : d ∈ depsOf { o with after := o.after.push ⟨i, .phase⟩ } ↔ d ∈ depsOf o ∨ d = i := by
  simp only [depsOf, Array.toList_push, List.filterMap_append, List.mem_append]
  refine or_congr Iff.rfl ?_
  simp [Region.binds]
theorem ready_addE {ops : Array Oper} {i j k : Nat} {l : Array Bool} (hl : l.size = ops.size) : k ∈ Region.ready .any (addE ops i j) l ↔ k ∈ Region.ready .any ops l ∧ (k = j → lst l i = true) := by
  rw [ready_iff hl, ready_iff (hl.trans (addE_size ops i j).symm), addE_size, addE_get]
  constructor
  · rintro ⟨h1, h2, o, ho, h3⟩
    obtain ⟨o', ho', e⟩ := Option.map_eq_some_iff.1 ho
    subst e
    refine ⟨⟨h1, h2, o', ho', fun d hd => ?_⟩, fun e => ?_⟩
    · split at h3
      · exact h3 d ((depsOf_push o' i d).2 (.inl hd))
      · exact h3 d hd
    · rw [if_pos e] at h3
      exact h3 i ((depsOf_push o' i i).2 (.inr rfl))
  · rintro ⟨⟨h1, h2, o, ho, h3⟩, h4⟩
    refine ⟨h1, h2, _, by rw [ho]; rfl, fun d hd => ?_⟩
    split at hd
    · rename_i e
      rcases (depsOf_push o i d).1 hd with hd | rfl
      · exact h3 d hd
      · exact h4 e
    · exact h3 d hd
theorem takes_one {ops : Array Oper} {i j : Nat} : ∀ (ord : List Nat) (l : Array Bool), l.size = ops.size → lst l i = true → Takes ops l ord → Takes (addE ops i j) l ord
  | [], l, hl, hi, h => by
    simp only [Takes] at h ⊢
    rw [List.eq_nil_iff_forall_not_mem] at h ⊢
    exact fun k hk => h k ((ready_addE hl).1 hk).1
  | k :: r, l, hl, hi, h => by
    refine ⟨(ready_addE hl).2 ⟨h.1, fun _ => hi⟩, takes_one r _ (by simpa using hl) ?_ h.2⟩
    obtain ⟨h1, _⟩ := (ready_iff hl).1 h.1
    rw [lst_set (by omega)]
    unfold upL
    split
    · rfl
    · exact hi
theorem takes_two {ops : Array Oper} {i j : Nat} (hij : i ≠ j) : ∀ (ord : List Nat) (l : Array Bool), l.size = ops.size → Takes ops l ord → Takes (addE ops i j) l ord ∨ Takes (addE ops j i) l ord
  | [], l, hl, h => by
    refine .inl ?_
    simp only [Takes] at h ⊢
    rw [List.eq_nil_iff_forall_not_mem] at h ⊢
    exact fun k hk => h k ((ready_addE hl).1 hk).1
  | k :: r, l, hl, h => by
    obtain ⟨h1, _⟩ := (ready_iff hl).1 h.1
    have hset : ∀ x, lst (l.setIfInBounds k true) x = upL (lst l) k x := fun x => by rw [lst_set (by omega)]
    by_cases hi : k = i
    · subst hi
      exact .inl ⟨(ready_addE hl).2 ⟨h.1, fun e => absurd e hij⟩, takes_one r _ (by simpa using hl) (by rw [hset]; simp [upL]) h.2⟩
    · by_cases hj : k = j
      · subst hj
        exact .inr ⟨(ready_addE hl).2 ⟨h.1, fun e => absurd e (Ne.symm hij)⟩, takes_one r _ (by simpa using hl) (by rw [hset]; simp [upL]) h.2⟩
      · exact (takes_two hij r _ (by simpa using hl) h.2).imp (fun hh => ⟨(ready_addE hl).2 ⟨h.1, fun e => absurd e hj⟩, hh⟩) (fun hh => ⟨(ready_addE hl).2 ⟨h.1, fun e => absurd e hi⟩, hh⟩)

theorem yielded_addE (ops : Array Oper) (i j : Nat) (tmps : Array Value) : yielded (addE ops i j) tmps = yielded ops tmps := by
  funext k
  have e : ((addE ops i j)[k]?).bind (·.dst) = (ops[k]?).bind (·.dst) := by
    rw [addE_get]
    cases ops[k]? with
    | none => rfl
    | some o => by_cases h : k = j <;> simp [h]
  simp only [yielded, e]
theorem wpOps_addE {ops : Array Oper} {i j : Nat} {Q : Exit → Act → World → Prop} : ∀ (ord : List Nat) (a : Act) (w : World), wpOps P (addE ops i j) Q ord a w → wpOps P ops Q ord a w
  | [], a, w, h => h
  | k :: r, a, w, h => by
    rw [wpOps_cons] at h ⊢
    have hr := fun a w => wpOps_addE (ops := ops) (i := i) (j := j) (Q := Q) r a w
    refine wpOp_mono hr ?_
    unfold wpOp at h ⊢
    rw [addE_get, yielded_addE] at h
    cases ho : ops[k]? with
    | none => rw [ho] at h; exact h
    | some o =>
      rw [ho] at h
      simp only [Option.map_some] at h
      split at h
      · exact h
      · exact h

theorem sim_alt {d : Cd} : ∀ {ops : Array Oper}, chkAlt P n ops d = true → ∀ {g0 g : G} {fr : Fr} {S : St} {a : Act} {w : World} {Q : CPost},
    g0.le g → RelW w0 g S w → RelF g n fr a.tmps → a.defers = [] → wCode (RSim P w0) d fr S Q → ∀ ord, Takes ops (Array.replicate ops.size false) ord → wpOps P ops (QRel w0 n g0 Q) ord a { w with drawn := w.drawn + 1 } := by
  induction d with
  | reg ord items =>
    intro ops hc g0 g fr S a w Q hl hW hF hd h o ht
    simp only [chkAlt, Bool.and_eq_true, decide_eq_true_eq] at hc
    exact takes_sound o _ _ a _ (any_reg hc.1 hc.2 hl hW hF hd h) ht
  | alt i j x y ihx ihy =>
    intro ops hc g0 g fr S a w Q hl hW hF hd h o ht
    simp only [chkAlt, Bool.and_eq_true, decide_eq_true_eq] at hc
    rcases takes_two hc.1.1 o _ (by simp) ht with h' | h'
    · exact wpOps_addE _ _ _ (ihx hc.1.2 hl hW hF hd h.1 o (by rw [addE_size]; exact h'))
    · exact wpOps_addE _ _ _ (ihy hc.2 hl hW hF hd h.2 o (by rw [addE_size]; exact h'))
  | _ => intro ops hc; simp only [chkAlt] at hc; cases hc

theorem sim_code (hm : P.follows .mixedOrders = true) : ∀ {c : Code} {d : Cd}, chkCode P n c d = true → ∀ {g0 g : G} {fr : Fr} {S : St} {a : Act} {w : World} {Q : CPost},
    g0.le g → RelW w0 g S w → RelF g n fr a.tmps → a.defers = [] → wCode (RSim P w0) d fr S Q → c.wp P (QRel w0 n g0 Q) a w := by
  intro c d
  induction d generalizing c with
  | skip =>
    intro hc g0 g fr S a w Q hl hW hF hd h
    cases c <;> simp only [chkCode] at hc <;> try (cases hc; done)
    · exact wp_skip ⟨hd, g, fr, S, hl, hW, hF, h⟩
  | reg ord items =>
    intro hc g0 g fr S a w Q hl hW hF hd h
    cases c <;> try (simp only [chkCode] at hc; cases hc; done)
    rename_i id ops draw
    cases draw with
    | false =>
      cases ord with
      | cons => simp only [chkCode] at hc; cases hc
      | nil =>
        simp only [chkCode] at hc
        exact wp_region_list (simPlain hl hc hW hF hd h)
    | true =>
      simp only [chkCode, Bool.and_eq_true, decide_eq_true_eq] at hc
      exact wp_region_any hm (any_reg hc.1 hc.2 hl hW hF hd h)
  | seq x y ihx ihy =>
    intro hc g0 g fr S a w Q hl hW hF hd h
    cases c <;> try (simp only [chkCode] at hc; cases hc; done)
    · simp only [chkCode, Bool.and_eq_true] at hc
      refine wp_seq (wp_mono (ihx hc.1 hl hW hF hd h) fun e a' w' q => ?_)
      cases e with
      | normal =>
        obtain ⟨hd', g', fr', S', hl', hW', hF', hk⟩ := q
        exact ihy hc.2 hl' hW' hF' hd' hk
      | exit id => exact q
      | goto l => exact q
      | ret => exact q
      | panic ch => exact q
      | outgrown => exact q
  | ite x y z ihy ihz =>
    intro hc g0 g fr S a w Q hl hW hF hd h
    cases c <;> try (simp only [chkCode] at hc; cases hc; done)
    · simp only [chkCode, Bool.and_eq_true] at hc
      have k := chkA_rel hF hc.1.1
      simp only [wCode] at h
      split at h <;> (try (cases h; done))
      · rename_i he
        rw [he] at k
        exact wp_cond_true k (ihy hc.1.2 hl hW hF hd h)
      · rename_i he
        rw [he] at k
        exact wp_cond_false k (ihz hc.2 hl hW hF hd h)
  | blk id x ih =>
    intro hc g0 g fr S a w Q hl hW hF hd h
    cases c <;> try (simp only [chkCode] at hc; cases hc; done)
    · simp only [chkCode, Bool.and_eq_true, decide_eq_true_eq] at hc
      obtain ⟨rfl, hc⟩ := hc
      refine wp_block (wp_mono (ih hc hl hW hF hd h) fun e a' w' q => ?_)
      cases e with
      | exit i =>
        obtain ⟨hd', g', fr', S', hl', hW', hF', hk⟩ := q
        simp only [Exit.inBlock]
        simp only [blkQ] at hk
        split
        · rename_i e; rw [if_pos e] at hk; exact ⟨hd', g', fr', S', hl', hW', hF', hk⟩
        · rename_i e; rw [if_neg e] at hk; exact ⟨hd', g', fr', S', hl', hW', hF', hk⟩
      | normal => exact q
      | goto l => exact q
      | ret => exact q
      | panic ch => exact q
      | outgrown => exact q
  | loop x ih =>
    intro hc g0 g fr S a w Q hl hW hF hd h
    cases c <;> try (simp only [chkCode] at hc; cases hc; done)
    · rename_i c
      simp only [chkCode] at hc
      have key := h (fun fr S => ∀ (g : G) (a : Act) (w : World), g0.le g → RelW w0 g S w → RelF g n fr a.tmps → a.defers = [] → AtLoop P c (QRel w0 n g0 Q) a w ∧ (Code.loop c).wp P (QRel w0 n g0 Q) a w) ?_
      · exact (key g a w hl hW hF hd).2
      · intro fr S hb g a w hl hW hF hd
        have hr : c.wp P (Exit.then (AtLoop P c (QRel w0 n g0 Q)) (QRel w0 n g0 Q)) a w := by
          refine wp_mono (ih hc hl hW hF hd hb) fun e a' w' q => ?_
          cases e with
          | normal =>
            obtain ⟨hd', g', fr', S', hl', hW', hF', hk⟩ := q
            exact (hk g' a' w' hl' hW' hF' hd').1
          | exit id => exact q
          | goto l => exact q
          | ret => exact q
          | panic ch => exact q
          | outgrown => exact q
        exact ⟨atLoop_round hr, wp_loop_round hr⟩
  | exit id =>
    intro hc g0 g fr S a w Q hl hW hF hd h
    cases c <;> try (simp only [chkCode] at hc; cases hc; done)
    · simp only [chkCode, decide_eq_true_eq] at hc
      subst hc
      exact wp_exit ⟨hd, g, fr, S, hl, hW, hF, h⟩
  | ret =>
    intro hc g0 g fr S a w Q hl hW hF hd h
    cases c <;> try (simp only [chkCode] at hc; cases hc; done)
    · exact wp_ret ⟨hd, g, fr, S, hl, hW, hF, h⟩
  | stuck => intro hc g0 g fr S a w Q hl hW hF hd h; exact absurd h id
  | alt i j x y _ _ =>
    intro hc g0 g fr S a w Q hl hW hF hd h
    cases c <;> try (simp only [chkCode] at hc; cases hc; done)
    rename_i id ops draw
    cases draw with
    | false => simp only [chkCode] at hc; cases hc
    | true =>
      simp only [chkCode] at hc
      refine wp_region_draw fun t => ?_
      simp only [Region.schedule, hm, Bool.true_or, if_true]
      refine sim_alt hc hl hW hF hd h _ (linear_takes _ _ _ (by simp) ?_)
      unfold leftN
      exact Nat.le_trans (List.length_filter_le _ _) (by simp)
end
end Go.VM

namespace Go.VM
open Go Go.RowKit

def chkRV (P : Program) (n : Nat) : ResultVar → RV → Bool
  | .tmp t, .tmp t' => decide (t = t') && decide (t < n)
  | .cell x t, .cell x' agg sz => decide (x = x') && decide (x < n) && decide (szOf P t = some sz) && decide (aggOf P t = some agg)
  | _, _ => false
def chkRVs (P : Program) (n : Nat) : List ResultVar → List RV → Bool
  | [], [] => true
  | x :: xs, y :: ys => chkRV P n x y && chkRVs P n xs ys
  | _, _ => false

def chkFn (P : Program) (f : FuncId) (fc : FnC) : Bool :=
  match P.funcs[f]? with
  | some fn => match fn.body with
    | some c => !(fn.name == "runtime.NumGoroutine") && decide (fn.ntmps = fc.ntmps) && chkRVs P fc.ntmps fn.results.toList fc.res && chkCode P fc.ntmps c fc.body
    | none => false
  | none => false

section
variable {P : Program} {w0 : World}

def readR (tmps : Array Value) : ResultVar → Sem Value
  | .tmp t => pure (tmps.getD t undef)
  | .cell a t => do loadVar t (← asAddr (tmps.getD a undef))

theorem readRV_sim {g : G} {S : St} {w : World} {n : Nat} {fr : Fr} {tmps : Array Value} (hW : RelW w0 g S w) (hF : RelF g n fr tmps) {x : ResultVar} {y : RV} (hc : chkRV P n x y = true) {v : V} (hv : readRV fr S y = some v) :
    ∃ u, (readR tmps x).run P w = .ok u w ∧ RelV g v u := by
  unfold chkRV at hc
  split at hc
  · simp only [Bool.and_eq_true, decide_eq_true_eq] at hc
    obtain ⟨rfl, ht⟩ := hc
    simp only [readRV] at hv
    injection hv with hv; subst hv
    exact ⟨_, rfl, hF.2 _ ht⟩
  · rename_i x t x' agg sz
    simp only [Bool.and_eq_true, decide_eq_true_eq] at hc
    obtain ⟨⟨⟨rfl, hx⟩, hs⟩, ha⟩ := hc
    have k := hF.2 _ hx
    simp only [readRV, aF, Arg.ev] at hv
    split at hv
    · rename_i i off he
      obtain ⟨cs, hcs, hv⟩ := Option.bind_eq_some_iff.1 hv
      rw [he] at k
      obtain ⟨k1, e⟩ := k
      obtain ⟨xs, r, on, rd⟩ := hW.cells hcs
      obtain ⟨u, eu, ku⟩ := run_loadVar_reads (P := P) ha hs (r.drop off) (on.drop off) (rd.drop off) hv
      exact ⟨u, by simp [readR, asAddr, e, eu], ku⟩
    · rename_i cs he
      rw [he] at k
      obtain ⟨b, p, us, e, r, on, ic⟩ := k
      obtain ⟨u, eu, ku⟩ := run_loadVar_reads (P := P) ha hs r on (hW.reads ic) hv
      exact ⟨u, by simp [readR, asAddr, e, eu], ku⟩
    · cases hv
  · cases hc

theorem readRVs_sim {g : G} {S : St} {w : World} {n : Nat} {fr : Fr} {tmps : Array Value} (hW : RelW w0 g S w) (hF : RelF g n fr tmps) : ∀ {xs : List ResultVar} {ys : List RV}, chkRVs P n xs ys = true → ∀ {vs : List V}, ys.mapM (readRV fr S) = some vs →
    ∃ us, (xs.mapM (readR tmps)).run P w = .ok us w ∧ RelL g vs us
  | [], [], _, vs, hv => by
    simp at hv; subst hv
    exact ⟨[], rfl, rfl⟩
  | x :: xs, y :: ys, hc, vs, hv => by
    simp only [chkRVs, Bool.and_eq_true] at hc
    rw [List.mapM_cons] at hv
    obtain ⟨v, hv1, hv⟩ := Option.bind_eq_some_iff.1 hv
    obtain ⟨vs', hv2, hv⟩ := Option.bind_eq_some_iff.1 hv
    injection hv with hv; subst hv
    obtain ⟨u, e1, k1⟩ := readRV_sim hW hF hc.1 hv1
    obtain ⟨us, e2, k2⟩ := readRVs_sim hW hF hc.2 hv2
    exact ⟨u :: us, by simp [List.mapM_cons, e1, e2], ⟨u, us, rfl, k1, k2⟩⟩
  | [], _ :: _, h, _, _ => by cases h
  | _ :: _, [], h, _, _ => by cases h

theorem results_run {fn : Func} {tmps : Array Value} {us : List Value} {w : World} (h : (fn.results.toList.mapM (readR tmps)).run P w = .ok us w) :
    (results fn tmps).run P w = .ok (match us with | [u] => u | us => .tuple us.toArray) w := by
  have e : results fn tmps = (do let vs ← fn.results.mapM (readR tmps); pure (if h : vs.size = 1 then vs[0] else .tuple vs)) := by
    unfold results
    congr 1
  rw [e, Array.mapM_eq_mapM_toList]
  simp only [Sem.run_bind, Sem.run_map, h, Result.andThen_ok]
  rcases us with _ | ⟨u, _ | ⟨u', us⟩⟩ <;> simp

theorem res_sim {g : G} {S : St} {w : World} {n : Nat} {fr : Fr} {tmps : Array Value} (hW : RelW w0 g S w) (hF : RelF g n fr tmps) {fn : Func} {ys : List RV} (hc : chkRVs P n fn.results.toList ys = true) {v : V} (hv : readRes fr S ys = some v) :
    ∃ u, (results fn tmps).run P w = .ok u w ∧ RelV g v u := by
  rcases ys with _ | ⟨y, _ | ⟨y', ys⟩⟩
  · simp only [readRes] at hv
    injection hv with hv; subst hv
    obtain ⟨us, e, k⟩ := readRVs_sim (vs := []) hW hF hc (by rfl)
    have e' := results_run e
    have : us = [] := k
    subst this
    exact ⟨_, e', ⟨[], rfl, rfl⟩⟩
  · simp only [readRes] at hv
    obtain ⟨us, e, k⟩ := readRVs_sim (vs := [v]) hW hF hc (by simp [hv])
    have e' := results_run e
    obtain ⟨u, us', rfl, k1, k2⟩ := k
    have : us' = [] := k2
    subst this
    exact ⟨_, e', k1⟩
  · simp only [readRes] at hv
    obtain ⟨vs, hvs, rfl⟩ := Option.map_eq_some_iff.1 hv
    obtain ⟨us, e, k⟩ := readRVs_sim hW hF hc hvs
    have e' := results_run e
    rw [List.mapM_cons] at hvs
    obtain ⟨v1, _, hvs⟩ := Option.bind_eq_some_iff.1 hvs
    obtain ⟨vs', hvs', hvs⟩ := Option.bind_eq_some_iff.1 hvs
    injection hvs with hvs; subst hvs
    rw [List.mapM_cons] at hvs'
    obtain ⟨v2, _, hvs'⟩ := Option.bind_eq_some_iff.1 hvs'
    obtain ⟨vs2, _, hvs'⟩ := Option.bind_eq_some_iff.1 hvs'
    injection hvs' with hvs'; subst hvs'
    obtain ⟨u1, us1, rfl, k1, u2, us2, rfl, k2, k3⟩ := k
    exact ⟨_, e', ⟨u1 :: u2 :: us2, rfl, ⟨u1, _, rfl, k1, u2, _, rfl, k2, k3⟩⟩⟩

theorem RelL.getD {g : G} : ∀ {vs : List V} {us : List Value}, RelL g vs us → ∀ i, RelV g (vs.getD i (.tup [])) (us.getD i undef)
  | [], us, h, i => by
    have : us = [] := h
    subst this
    simp only [List.getD_nil]
    exact ⟨[], rfl, rfl⟩
  | v :: vs, us, h, i => by
    obtain ⟨u, us', rfl, h1, h2⟩ := h
    cases i with
    | zero => exact h1
    | succ i => simpa using RelL.getD h2 i

theorem RSim.mono {f : FuncId} {args : List V} {S : St} {Q Q' : AEnd → St → Prop} (h : RSim P w0 f args S Q) (hQ : ∀ e S, Q e S → Q' e S) : RSim P w0 f args S Q' :=
  ⟨h.1, fun g w us hW hr => (h.2 g w us hW hr).mono fun e w' ⟨g', S', e', a, b, c, d⟩ => ⟨g', S', e', a, b, c, hQ _ _ d⟩⟩
theorem RSim.le : ClLe (RSim P w0) (RSim P w0) := fun _ _ _ _ _ hQ h => h.mono hQ

/-- A call does what the code does. -/
theorem RSim.code (hm : P.follows .mixedOrders = true) {f : FuncId} {fc : FnC} (hc : chkFn P f fc = true) {args : List V} {S : St} {Q : AEnd → St → Prop} (hn : args.length ≤ fc.ntmps)
    (h : wCode (RSim P w0) fc.body (frame0 args) S (bodyQ fc Q)) : RSim P w0 f args S Q := by
  unfold chkFn at hc
  split at hc <;> (try (cases hc; done))
  rename_i fn hfn
  split at hc <;> (try (cases hc; done))
  rename_i c hb
  simp only [Bool.and_eq_true, decide_eq_true_eq, Bool.not_eq_true'] at hc
  obtain ⟨⟨⟨h1, h2⟩, h3⟩, h4⟩ := hc
  refine ⟨⟨fn, hfn, by rw [hb]; rfl, h1⟩, fun g w us hW hr => ?_⟩
  refine calls_of_wp hfn hb ?_
  have hlen : us.length = args.length := hr.len.symm
  have hF : RelF g fc.ntmps (frame0 args) (us.toArray ++ Array.replicate (fn.ntmps - us.toArray.size) undef) := by
    refine ⟨by simp; omega, fun i hi => ?_⟩
    have e : (us.toArray ++ Array.replicate (fn.ntmps - us.toArray.size) undef).getD i undef = us.getD i undef := by
      simp only [Array.getD_eq_getD_getElem?, List.getD, Array.getElem?_append]
      split
      · simp
      · rename_i hh
        simp at hh
        rw [List.getElem?_eq_none hh, Array.getElem?_replicate]
        split <;> rfl
    rw [e]
    exact hr.getD i
  refine wp_mono (sim_code hm h4 (G.le.refl g) hW hF rfl h) fun e a' w' q => ?_
  cases e with
  | normal =>
    obtain ⟨hd, g', fr', S', hl, hW', hF', hk⟩ := q
    simp only [bodyQ] at hk
    split at hk <;> (try (cases hk; done))
    rename_i v hv
    obtain ⟨u, e1, k1⟩ := res_sim hW' hF' h3 hv
    exact ⟨hd, u, e1, g', S', .ret v, hl, hW', k1, hk⟩
  | ret =>
    obtain ⟨hd, g', fr', S', hl, hW', hF', hk⟩ := q
    simp only [bodyQ] at hk
    split at hk <;> (try (cases hk; done))
    rename_i v hv
    obtain ⟨u, e1, k1⟩ := res_sim hW' hF' h3 hv
    exact ⟨hd, u, e1, g', S', .ret v, hl, hW', k1, hk⟩
  | exit id =>
    obtain ⟨hd, g', fr', S', hl, hW', hF', hk⟩ := q
    exact hk.elim
  | goto l => exact q.elim
  | panic ch =>
    obtain ⟨hd, g', fr', S', v, u, rfl, hl, hW', k1, hk⟩ := q
    exact ⟨hd, g', S', .pan v, hl, hW', ⟨u, rfl, k1⟩, hk⟩
  | outgrown => exact q.elim
end
end Go.VM
