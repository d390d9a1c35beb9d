/-
  The value machine: a code. Regions, sequences, conditions, blocks, loops.
-/
import Derived.Test.YtddjanglghgoeaaVmDrawAll
set_option linter.unusedVariables false
set_option linter.unusedSimpArgs false
namespace Go.VM
open Go Go.RowKit

def chkCode (P : Program) (n : Nat) : Code → Cd → Bool
  | .skip, .skip => true
  | .region _ ops false, .reg [] items => chkPlain P n ops ops.toList items
  | .region _ ops true, .reg ord items => decide (ord.length = items.length) && chkDraw P n ops (ord.zip items)
  | .seq a b, .seq a' b' => chkCode P n a a' && chkCode P n b b'
  | .cond c a b, .ite c' a' b' => chkA n c c' && chkCode P n a a' && chkCode P n b b'
  | .block id c, .blk id' c' => decide (id = id') && chkCode P n c c'
  | .loop c, .loop c' => chkCode P n c c'
  | .exit id, .exit id' => decide (id = id')
  | .ret, .ret => true
  | _, _ => false

theorem chkSeq_lt {P : Program} {n : Nat} {B : List Nat} {ops : Array Oper} : ∀ {rest before : Seq}, chkSeq P n B ops before rest = true → ∀ i ∈ runsOf rest, i < ops.size
  | [], _, _, i, hi => by simp [runsOf] at hi
  | (j, x) :: rest, before, h, i, hi => by
    simp only [chkSeq, Bool.and_eq_true] at h
    cases x with
    | run oc =>
      rw [runsOf_run] at hi
      rcases List.mem_cons.1 hi with rfl | hi
      · have h1 := h.1
        simp only [Bool.and_eq_true] at h1
        have h2 := h1.1.1.1.1.1
        cases ho : ops[i]? with
        | none => rw [ho] at h2; cases h2
        | some o => exact (Array.getElem?_eq_some_iff.1 ho).1
      · exact chkSeq_lt h.2 i hi
    | chk d g fi =>
      rw [runsOf_chk] at hi
      exact chkSeq_lt h.2 i hi

theorem draw_ok {P : Program} {n : Nat} {ops : Array Oper} {q : Seq} (h : chkDraw P n ops q = true) : DOk P n ops (befs ops.toList) q ∧ chkSeq P n (befs ops.toList) ops [] q = true := by
  simp only [chkDraw, Bool.and_eq_true, decide_eq_true_eq] at h
  obtain ⟨⟨⟨⟨h1, h2⟩, h3⟩, h4⟩, h5⟩ := h
  refine ⟨⟨fun i hi => ?_, chkSeq_lt h5, h3, fun i o ho d hd => ?_, rfl⟩, h5⟩
  · simpa using List.all_eq_true.1 h2 i (by simpa using hi)
  · have := List.all_eq_true.1 h4 i (by simpa using (Array.getElem?_eq_some_iff.1 ho).1)
    rw [ho] at this
    simpa using List.all_eq_true.1 this d hd

section
variable {P : Program} {w0 : World} {n : Nat}

/-- Standing at the head of a loop again. -/
def AtLoop (P : Program) (c : Code) (Q : Exit → Act → World → Prop) (a : Act) (w : World) : Prop :=
  ∀ (b : Frame) (k : List Go.Item) (cs : List Frame), ∃ e a' w', Q e a' w' ∧ Arrives P (lone (b.at a (.inLoop c :: k)) cs w) b k cs e a' w'

theorem loop_round {c : Code} {Q : Exit → Act → World → Prop} {a : Act} {w : World} (h : c.wp P (Exit.then (AtLoop P c Q) Q) a w) (b : Frame) (k : List Go.Item) (cs : List Frame) :
    ∃ e a' w', Q e a' w' ∧ Arrives P (lone (b.at a (.code c :: .inLoop c :: k)) cs w) b k cs e a' w' := by
  obtain ⟨e, a₁, w₁, hq, harr⟩ := h b (.inLoop c :: k) cs
  cases e with
  | normal =>
    obtain ⟨e₂, a₂, w₂, hq₂, harr₂⟩ := hq b k cs
    exact ⟨e₂, a₂, w₂, hq₂, .of_steps harr harr₂⟩
  | exit id => exact ⟨_, a₁, w₁, hq, .pass (x := .inLoop c) rfl (fun _ _ => .inl (by simp)) harr⟩
  | goto l => exact ⟨_, a₁, w₁, hq, .pass (x := .inLoop c) rfl (fun _ _ => .inl (by simp)) harr⟩
  | ret => exact ⟨_, a₁, w₁, hq, .pass (x := .inLoop c) rfl (fun _ _ => .inl (by simp)) harr⟩
  | panic ch => exact ⟨_, a₁, w₁, hq, .pass (x := .inLoop c) rfl (fun _ _ => .inl (by simp)) harr⟩
  | outgrown => exact ⟨_, a₁, w₁, hq, .pass (x := .inLoop c) rfl (fun _ _ => .inl (by simp)) harr⟩

theorem atLoop_round {c : Code} {Q : Exit → Act → World → Prop} {a : Act} {w : World} (h : c.wp P (Exit.then (AtLoop P c Q) Q) a w) : AtLoop P c Q a w := fun b k cs =>
  let ⟨e, a', w', hq, r⟩ := loop_round h b k cs
  ⟨e, a', w', hq, .of_steps (.one step_inLoop) r⟩
theorem wp_loop_round {c : Code} {Q : Exit → Act → World → Prop} {a : Act} {w : World} (h : c.wp P (Exit.then (AtLoop P c Q) Q) a w) : (Code.loop c).wp P Q a w := fun b k cs =>
  let ⟨e, a', w', hq, r⟩ := loop_round h b k cs
  ⟨e, a', w', hq, .of_steps (.one step_loop) r⟩

theorem sim_code (hm : P.follows .mixedOrders = true) : ∀ {c : Code} {d : Cd}, chkCode P n c d = true → ∀ {g0 g : G} {fr : Fr} {S : St} {a : Act} {w : World} {Q : CPost},
    g0.le g → RelW w0 g S w → RelF g n fr a.tmps → a.defers = [] → wCode (RSim P w0) d fr S Q → c.wp P (QRel w0 n g0 Q) a w := by
  intro c d
  induction d generalizing c with
  | skip =>
    intro hc g0 g fr S a w Q hl hW hF hd h
    cases c <;> simp only [chkCode] at hc <;> try (cases hc; done)
    · exact wp_skip ⟨hd, g, fr, S, hl, hW, hF, h⟩
  | reg ord items =>
    intro hc g0 g fr S a w Q hl hW hF hd h
    cases c <;> try (simp only [chkCode] at hc; cases hc; done)
    rename_i id ops draw
    cases draw with
    | false =>
      cases ord with
      | cons => simp only [chkCode] at hc; cases hc
      | nil =>
        simp only [chkCode] at hc
        exact wp_region_list (simPlain hl hc hW hF hd h)
    | true =>
      simp only [chkCode, Bool.and_eq_true, decide_eq_true_eq] at hc
      obtain ⟨hlen, hc⟩ := hc
      obtain ⟨hok, hseq⟩ := draw_ok hc
      refine wp_region_any hm ?_
      have hno : ∀ j, lst (Array.replicate ops.size false) j = false := by
        intro j
        simp only [lst, Array.getD_eq_getD_getElem?]
        rw [Array.getElem?_replicate]
        split <;> rfl
      have hmixed : mixF ops (lst (Array.replicate ops.size false)) fr fr = fr := by
        funext t
        exact mix_no fun j _ _ => hno j
      have hfst : (ord.zip items).map (·.2) = items := by
        rw [List.map_snd_zip]
        omega
      have hinv : DInv P w0 n ops (befs ops.toList) (ord.zip items) fr (Q .normal) (fun v S' => Q (.panic v) fr S') g0 (lst (Array.replicate ops.size false)) [] (ord.zip items) g fr S a { w with drawn := w.drawn + 1 } := by
        refine ⟨rfl, hseq, hl, hW.drawn, hd, (by rw [hfst]; exact h), fun i hi => ?_, fun x hx => (by cases hx), (by rw [hmixed]; exact hF), fun _ _ => rfl, fun i hi => (by simp [runsOf] at hi), fun i hi => (by simp [runsOf] at hi)⟩
        rw [hno] at hi; cases hi
      obtain ⟨done, rest, fr', hinv', hb⟩ := hinv.peel hok _ (Nat.le_refl _)
      refine sim_draw hok (fun _ _ h => h) (fun _ _ h => h) ops.size (by simp) ?_ ?_ hinv' hb
      · unfold leftN
        exact Nat.le_trans (List.length_filter_le _ _) (by simp)
      · intro i o _ hi
        rw [hno] at hi; cases hi
  | seq x y ihx ihy =>
    intro hc g0 g fr S a w Q hl hW hF hd h
    cases c <;> try (simp only [chkCode] at hc; cases hc; done)
    · simp only [chkCode, Bool.and_eq_true] at hc
      refine wp_seq (wp_mono (ihx hc.1 hl hW hF hd h) fun e a' w' q => ?_)
      cases e with
      | normal =>
        obtain ⟨hd', g', fr', S', hl', hW', hF', hk⟩ := q
        exact ihy hc.2 hl' hW' hF' hd' hk
      | exit id => exact q
      | goto l => exact q
      | ret => exact q
      | panic ch => exact q
      | outgrown => exact q
  | ite x y z ihy ihz =>
    intro hc g0 g fr S a w Q hl hW hF hd h
    cases c <;> try (simp only [chkCode] at hc; cases hc; done)
    · simp only [chkCode, Bool.and_eq_true] at hc
      have k := chkA_rel hF hc.1.1
      simp only [wCode] at h
      split at h <;> (try (cases h; done))
      · rename_i he
        rw [he] at k
        exact wp_cond_true k (ihy hc.1.2 hl hW hF hd h)
      · rename_i he
        rw [he] at k
        exact wp_cond_false k (ihz hc.2 hl hW hF hd h)
  | blk id x ih =>
    intro hc g0 g fr S a w Q hl hW hF hd h
    cases c <;> try (simp only [chkCode] at hc; cases hc; done)
    · simp only [chkCode, Bool.and_eq_true, decide_eq_true_eq] at hc
      obtain ⟨rfl, hc⟩ := hc
      refine wp_block (wp_mono (ih hc hl hW hF hd h) fun e a' w' q => ?_)
      cases e with
      | exit i =>
        obtain ⟨hd', g', fr', S', hl', hW', hF', hk⟩ := q
        simp only [Exit.inBlock]
        simp only [blkQ] at hk
        split
        · rename_i e; rw [if_pos e] at hk; exact ⟨hd', g', fr', S', hl', hW', hF', hk⟩
        · rename_i e; rw [if_neg e] at hk; exact ⟨hd', g', fr', S', hl', hW', hF', hk⟩
      | normal => exact q
      | goto l => exact q
      | ret => exact q
      | panic ch => exact q
      | outgrown => exact q
  | loop x ih =>
    intro hc g0 g fr S a w Q hl hW hF hd h
    cases c <;> try (simp only [chkCode] at hc; cases hc; done)
    · rename_i c
      simp only [chkCode] at hc
      have key := h (fun fr S => ∀ (g : G) (a : Act) (w : World), g0.le g → RelW w0 g S w → RelF g n fr a.tmps → a.defers = [] → AtLoop P c (QRel w0 n g0 Q) a w ∧ (Code.loop c).wp P (QRel w0 n g0 Q) a w) ?_
      · exact (key g a w hl hW hF hd).2
      · intro fr S hb g a w hl hW hF hd
        have hr : c.wp P (Exit.then (AtLoop P c (QRel w0 n g0 Q)) (QRel w0 n g0 Q)) a w := by
          refine wp_mono (ih hc hl hW hF hd hb) fun e a' w' q => ?_
          cases e with
          | normal =>
            obtain ⟨hd', g', fr', S', hl', hW', hF', hk⟩ := q
            exact (hk g' a' w' hl' hW' hF' hd').1
          | exit id => exact q
          | goto l => exact q
          | ret => exact q
          | panic ch => exact q
          | outgrown => exact q
        exact ⟨atLoop_round hr, wp_loop_round hr⟩
  | exit id =>
    intro hc g0 g fr S a w Q hl hW hF hd h
    cases c <;> try (simp only [chkCode] at hc; cases hc; done)
    · simp only [chkCode, decide_eq_true_eq] at hc
      subst hc
      exact wp_exit ⟨hd, g, fr, S, hl, hW, hF, h⟩
  | ret =>
    intro hc g0 g fr S a w Q hl hW hF hd h
    cases c <;> try (simp only [chkCode] at hc; cases hc; done)
    · exact wp_ret ⟨hd, g, fr, S, hl, hW, hF, h⟩
end
end Go.VM
