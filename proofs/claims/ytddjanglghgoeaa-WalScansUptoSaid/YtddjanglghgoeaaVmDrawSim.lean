/-
  The value machine: a region that draws its order: in whatever order the model takes it, it does what the value machine says.
-/
import Derived.Test.YtddjanglghgoeaaVmDraw
set_option linter.unusedVariables false
set_option linter.unusedSimpArgs false
namespace Go.VM
open Go Go.RowKit

theorem runsOf_append (a b : Seq) : runsOf (a ++ b) = runsOf a ++ runsOf b := by simp [runsOf]
theorem runsOf_run (i : Nat) (oc : OpC) (b : Seq) : runsOf ((i, .run oc) :: b) = i :: runsOf b := by simp [runsOf, isRun]
theorem runsOf_chk (i d : Nat) (g : Option (Nat × Bool)) (fi : FI) (b : Seq) : runsOf ((i, .chk d g fi) :: b) = runsOf b := by simp [runsOf, isRun]
theorem mem_runsOf {q : Seq} {i : Nat} : i ∈ runsOf q ↔ ∃ oc, (i, Item.run oc) ∈ q := by
  simp only [runsOf, List.mem_map, List.mem_filter]
  constructor
  · rintro ⟨⟨j, x⟩, ⟨h1, h2⟩, rfl⟩
    cases x with
    | run oc => exact ⟨oc, h1⟩
    | chk => simp [isRun] at h2
  · rintro ⟨oc, h⟩
    exact ⟨(i, .run oc), ⟨h, rfl⟩, rfl⟩

/-- The slots as they are for those that are done. -/
def mixF (ops : Array Oper) (L : Nat → Bool) (fr fr0 : Fr) : Fr := fun t => if ((List.range ops.size).any fun j => decide (dstAt ops j = some t) && L j) = true then fr t else fr0 t

theorem mix_yes {ops : Array Oper} {L : Nat → Bool} {fr fr0 : Fr} {t j : Nat} (hj : j < ops.size) (hd : dstAt ops j = some t) (hL : L j = true) : mixF ops L fr fr0 t = fr t := by
  unfold mixF
  rw [if_pos]
  rw [List.any_eq_true]
  exact ⟨j, by simpa using hj, by simp [hd, hL]⟩
theorem mix_no {ops : Array Oper} {L : Nat → Bool} {fr fr0 : Fr} {t : Nat} (h : ∀ j, j < ops.size → dstAt ops j = some t → L j = false) : mixF ops L fr fr0 t = fr0 t := by
  unfold mixF
  rw [if_neg]
  rw [List.any_eq_true]
  rintro ⟨j, hj, hh⟩
  simp only [Bool.and_eq_true, decide_eq_true_eq] at hh
  have := h j (by simpa using hj) hh.1
  rw [hh.2] at this
  cases this

theorem reads_spec {B : List Nat} {ops : Array Oper} {i : Nat} {slots : List Nat} {strict : Bool} (h : chkReads B ops i slots strict = true) {t j : Nat} (ht : t ∈ slots) (hj : j < ops.size) (hd : dstAt ops j = some t) :
    j ≠ i ∧ (bef B i j = true ∨ (strict = false ∧ bef B j i = true)) := by
  unfold chkReads at h
  have h1 := List.all_eq_true.1 (List.all_eq_true.1 h t ht) j (by simpa using hj)
  rw [if_pos hd] at h1
  simp only [Bool.and_eq_true, bne_iff_ne, Bool.or_eq_true, Bool.not_eq_true'] at h1
  exact h1
theorem uniq_spec {ops : Array Oper} (h : uniqDst ops = true) {i j t : Nat} (hi : i < ops.size) (hj : j < ops.size) (h1 : dstAt ops i = some t) (h2 : dstAt ops j = some t) : i = j := by
  unfold uniqDst at h
  have := List.all_eq_true.1 (List.all_eq_true.1 h i (by simpa using hi)) j (by simpa using hj)
  rw [h1] at this
  simp only [Bool.or_eq_true, beq_iff_eq, decide_eq_true_eq] at this
  rcases this with this | this
  · exact this
  · exact absurd h2 this

section
variable {P : Program} {w0 : World} {n : Nat} {ops : Array Oper} {B : List Nat} {q : Seq} {fr0 : Fr} {K : Fr → St → Prop} {Kp : V → St → Prop} {g0 : G}

/-- What a quiet operation that is done told, it would tell again. -/
def EvalTo (P : Program) (n : Nat) (ops : Array Oper) (B : List Nat) (done : Seq) (fr0 : Fr) (i : Nat) (fr : Fr) (S : St) : Prop :=
  ∃ oc fi o, ops[i]? = some o ∧ oc.i = .f fi ∧ chkOp P n ops o oc = true ∧ chkReads B ops i (opSlots oc) false = true ∧
    (fi.reader = true → ∃ oc' fi', (i, Item.run oc') ∈ done ∧ oc'.i = .f fi' ∧ fi'.reader = true) ∧
    ((wanted (mixF ops (bef B i) fr fr0) oc.g = some true ∧ ∃ v, aF fi (mixF ops (bef B i) fr fr0) S = some v ∧ ∀ d, oc.dst = some d → fr d = v) ∨
     (wanted (mixF ops (bef B i) fr fr0) oc.g = some false ∧ ∀ d, oc.dst = some d → fr d = .tup []))

def pend (rest : Seq) (i : Nat) : Bool := (rest.takeWhile fun y => !isEff y.2).any fun y => y.1 == i && !isRun y.2

/-- It is asked once more further on; it was wanted. -/
def Waits (n : Nat) (ops : Array Oper) (B : List Nat) (fr0 : Fr) (rest : Seq) (i : Nat) (fr : Fr) : Prop :=
  pend rest i = true ∧ ∃ o og, ops[i]? = some o ∧ chkG n ops o.guard og = true ∧ wanted (mixF ops (bef B i) fr fr0) og = some true

structure DInv (P : Program) (w0 : World) (n : Nat) (ops : Array Oper) (B : List Nat) (q : Seq) (fr0 : Fr) (K : Fr → St → Prop) (Kp : V → St → Prop) (g0 : G) (L : Nat → Bool) (done rest : Seq) (g : G) (fr : Fr) (S : St) (a : Act) (w : World) : Prop where
  seq : q = done ++ rest
  chk : chkSeq P n B ops done rest = true
  le : g0.le g
  W : RelW w0 g S w
  defers : a.defers = []
  form : wItems (RSim P w0) (rest.map (·.2)) fr S K Kp
  sub : ∀ i, L i = true → i ∈ runsOf done
  eff : ∀ x ∈ done, isEff x.2 = true → L x.1 = true
  frame : RelF g n (mixF ops L fr fr0) a.tmps
  unw : ∀ t, (∀ i ∈ runsOf done, dstAt ops i ≠ some t) → fr t = fr0 t
  ord : ∀ i ∈ runsOf done, ∀ j, bef B i j = true → j < ops.size → j ∈ runsOf done
  ev : ∀ i ∈ runsOf done, L i = false → EvalTo P n ops B done fr0 i fr S ∨ Waits n ops B fr0 rest i fr

structure DOk (P : Program) (n : Nat) (ops : Array Oper) (B : List Nat) (q : Seq) : Prop where
  all : ∀ i, i < ops.size → i ∈ runsOf q
  lt : ∀ i ∈ runsOf q, i < ops.size
  uniq : uniqDst ops = true
  down : ∀ i o, ops[i]? = some o → ∀ d ∈ depsOf o, (runsOf q).idxOf d < (runsOf q).idxOf i
  B : B = befs ops q

theorem chkG_one {o : Oper} {g g' : Option (Nat × Bool)} (h : chkG n ops o.guard g = true) (h' : chkG n ops o.guard g' = true) : g = g' := by
  unfold chkG at h h'
  cases ho : o.guard with
  | none =>
    rw [ho] at h h'
    cases g with
    | none => cases g' with
      | none => rfl
      | some q => cases h'
    | some q => cases h
  | some p =>
    obtain ⟨j, want⟩ := p
    rw [ho] at h h'
    cases g with
    | none => cases h
    | some q =>
      obtain ⟨t, b⟩ := q
      cases g' with
      | none => cases h'
      | some q' =>
        obtain ⟨t', b'⟩ := q'
        simp only [Bool.and_eq_true, decide_eq_true_eq] at h h'
        obtain ⟨rfl, h⟩ := h
        obtain ⟨rfl, h'⟩ := h'
        split at h <;> (try (cases h; done))
        rename_i x hx
        rw [hx] at h'
        simp only [Bool.and_eq_true, decide_eq_true_eq] at h h'
        rw [h.1, h'.1]

/-- An operation's own view does not hang on what comes behind it. -/
theorem mix_put {fr : Fr} (hok : DOk P n ops B q) {done : Seq} (hdq : ∀ i ∈ runsOf done, i ∈ runsOf q) (ord : ∀ i ∈ runsOf done, ∀ j, bef B i j = true → j < ops.size → j ∈ runsOf done) {k i : Nat} (hk : k ∈ runsOf done) (hi : i < ops.size) (hni : i ∉ runsOf done) (v : V) :
    mixF ops (bef B k) (fr.put (dstAt ops i) v) fr0 = mixF ops (bef B k) fr fr0 := by
  funext t
  by_cases h : ∃ j, j < ops.size ∧ dstAt ops j = some t ∧ bef B k j = true
  · obtain ⟨j, hj, hd, hb⟩ := h
    rw [mix_yes hj hd hb, mix_yes hj hd hb]
    cases hdi : dstAt ops i with
    | none => rfl
    | some t' =>
      simp only [Fr.put]
      rw [if_neg]
      rintro rfl
      have := uniq_spec hok.uniq hi hj hdi hd
      subst this
      exact hni (ord k hk _ hb hj)
  · have hno : ∀ j, j < ops.size → dstAt ops j = some t → bef B k j = false := fun j hj hd => by
      cases hb : bef B k j with
      | false => rfl
      | true => exact absurd ⟨j, hj, hd, hb⟩ h
    rw [mix_no hno, mix_no hno]

theorem put_other {fr : Fr} (hok : DOk P n ops B q) {k i d : Nat} (hk : k < ops.size) (hi : i < ops.size) (hne : k ≠ i) (hd : dstAt ops k = some d) (v : V) : (fr.put (dstAt ops i) v) d = fr d := by
  cases hdi : dstAt ops i with
  | none => rfl
  | some t =>
    simp only [Fr.put]
    rw [if_neg]
    rintro rfl
    exact hne (uniq_spec hok.uniq hk hi hd hdi)

/-- What it would tell again it tells again behind another operation's result. -/
theorem EvalTo.put {fr : Fr} {S : St} (hok : DOk P n ops B q) {done : Seq} (hdq : ∀ i ∈ runsOf done, i ∈ runsOf q) (ord : ∀ i ∈ runsOf done, ∀ j, bef B i j = true → j < ops.size → j ∈ runsOf done) {k i : Nat} (hk : k ∈ runsOf done) (hi : i < ops.size) (hni : i ∉ runsOf done) (v : V) {x : Nat × Item}
    (h : EvalTo P n ops B done fr0 k fr S) : EvalTo P n ops B (done ++ [x]) fr0 k (fr.put (dstAt ops i) v) S := by
  obtain ⟨oc, fi, o, h1, h2, h3, h4, h5, h6⟩ := h
  have hkl := hok.lt k (hdq k hk)
  have hne : k ≠ i := fun e => hni (e ▸ hk)
  have hdk : ∀ d, oc.dst = some d → dstAt ops k = some d := fun d hd => by
    simp only [chkOp, Bool.and_eq_true] at h3
    have := chkDst_eq h3.1.1
    simp [dstAt, h1, this, hd]
  refine ⟨oc, fi, o, h1, h2, h3, h4, fun hr => ?_, ?_⟩
  · obtain ⟨oc', fi', a1, a2, a3⟩ := h5 hr
    exact ⟨oc', fi', List.mem_append_left _ a1, a2, a3⟩
  · rw [mix_put hok hdq ord hk hi hni]
    rcases h6 with ⟨a1, u, a2, a3⟩ | ⟨a1, a2⟩
    · exact .inl ⟨a1, u, a2, fun d hd => by rw [put_other hok hkl hi hne (hdk d hd)]; exact a3 d hd⟩
    · exact .inr ⟨a1, fun d hd => by rw [put_other hok hkl hi hne (hdk d hd)]; exact a2 d hd⟩

theorem Waits.put {fr : Fr} (hok : DOk P n ops B q) {done rest rest' : Seq} (hdq : ∀ i ∈ runsOf done, i ∈ runsOf q) (ord : ∀ i ∈ runsOf done, ∀ j, bef B i j = true → j < ops.size → j ∈ runsOf done) {k i : Nat} (hk : k ∈ runsOf done) (hi : i < ops.size) (hni : i ∉ runsOf done) (v : V)
    (hp : pend rest' k = true) (h : Waits n ops B fr0 rest k fr) : Waits n ops B fr0 rest' k (fr.put (dstAt ops i) v) := by
  obtain ⟨_, o, og, h1, h2, h3⟩ := h
  exact ⟨hp, o, og, h1, h2, by rw [mix_put hok hdq ord hk hi hni]; exact h3⟩

/-- What an operation that is at the head looks at is there in the frame as it is. -/
theorem agree_head {fr : Fr} (hok : DOk P n ops B q) {done : Seq} (hdq : ∀ i ∈ runsOf done, i ∈ runsOf q) (ord : ∀ i ∈ runsOf done, ∀ j, bef B i j = true → j < ops.size → j ∈ runsOf done) (unw : ∀ t, (∀ i ∈ runsOf done, dstAt ops i ≠ some t) → fr t = fr0 t)
    {i : Nat} (hi : i < ops.size) (hni : i ∉ runsOf done) {slots : List Nat} (hr : chkReads B ops i slots false = true) (v : V) : AgreeOn slots (mixF ops (bef B i) (fr.put (dstAt ops i) v) fr0) fr := by
  intro t ht
  by_cases h : ∃ j, j < ops.size ∧ dstAt ops j = some t ∧ bef B i j = true
  · obtain ⟨j, hj, hd, hb⟩ := h
    rw [mix_yes hj hd hb]
    exact put_other hok hj hi (reads_spec hr ht hj hd).1 hd v
  · have hno : ∀ j, j < ops.size → dstAt ops j = some t → bef B i j = false := fun j hj hd => by
      cases hb : bef B i j with
      | false => rfl
      | true => exact absurd ⟨j, hj, hd, hb⟩ h
    rw [mix_no hno]
    refine (unw t fun k hk hd => ?_).symm
    have hkl := hok.lt k (hdq k hk)
    obtain ⟨_, hh⟩ := reads_spec hr ht hkl hd
    rcases hh with hh | ⟨_, hh⟩
    · rw [hno k hkl hd] at hh; cases hh
    · exact hni (ord k hk i hh hi)
end
end Go.VM
