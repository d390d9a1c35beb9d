/-
  The value machine: does a code of the value machine stand for the model's code? A check that computes (types are looked up here, once), and what it gives for operands.
-/
import Derived.Test.YtddjanglghgoeaaVmRel
set_option linter.unusedVariables false
set_option linter.unusedSimpArgs false
namespace Go.VM
open Go Go.RowKit

def chkC : Value → V → Bool
  | .bool a, .bool b => a == b
  | .int k a, .int k' b => decide (k = k') && decide (a = b)
  | .string a, .str b => decide (a.data.toList = b.data.toList)
  | .pointer none, .ptr none => true
  | .slice none 0 0, .sl [] 0 _ .nil => true
  | .map none, .map none => true
  | .nilFunc, .nilFunc => true
  | .nilIface, .nilIface => true
  | _, _ => false
def chkL : List Value → List V → Bool
  | [], [] => true
  | u :: us, c :: cs => chkC u c && chkL us cs
  | _, _ => false
def chkV : Value → V → Bool
  | .agg us, .agg cs => chkL us.toList cs
  | .tuple us, .tup cs => chkL us.toList cs
  | u, c => chkC u c
def chkA (n : Nat) : Operand → Arg → Bool
  | .tmp i, .t j => decide (i = j) && decide (i < n)
  | .const u, .c v => chkV u v
  | .func f, .c (.func f' [] []) => decide (f = f')
  | _, _ => false
def chkAs (n : Nat) : List Operand → List Arg → Bool
  | [], [] => true
  | x :: xs, y :: ys => chkA n x y && chkAs n xs ys
  | _, _ => false
def chkO (n : Nat) : Option Operand → Option Arg → Bool
  | none, none => true
  | some x, some y => chkA n x y
  | _, _ => false

theorem chkC_rel (g : G) {u : Value} {v : V} (h : chkC u v = true) : RelV g v u ∧ u.oneCell' = true := by
  unfold chkC at h
  split at h <;> first | (cases h; done) | skip
  all_goals (try simp only [Bool.and_eq_true, decide_eq_true_eq, beq_iff_eq] at h)
  · subst h; exact ⟨rfl, rfl⟩
  · obtain ⟨rfl, rfl⟩ := h; exact ⟨rfl, rfl⟩
  · rename_i a b
    have : a = b := by
      obtain ⟨⟨a⟩⟩ := a; obtain ⟨⟨b⟩⟩ := b
      simp at h; subst h; rfl
    subst this; exact ⟨rfl, rfl⟩
  · exact ⟨rfl, rfl⟩
  · exact ⟨⟨by simp, .inl ⟨rfl, rfl, rfl, rfl⟩⟩, rfl⟩
  · exact ⟨rfl, rfl⟩
  · exact ⟨rfl, rfl⟩
  · exact ⟨rfl, rfl⟩
theorem chkL_rel (g : G) : ∀ {us : List Value} {cs : List V}, chkL us cs = true → RelL g cs us ∧ Ones us
  | [], [], _ => ⟨rfl, fun _ h => by cases h⟩
  | u :: us, c :: cs, h => by
    simp only [chkL, Bool.and_eq_true] at h
    obtain ⟨a, b⟩ := chkC_rel g h.1
    obtain ⟨c1, d⟩ := chkL_rel g h.2
    exact ⟨⟨u, us, rfl, a, c1⟩, fun x hx => by rcases List.mem_cons.1 hx with rfl | hx; exact b; exact d x hx⟩
  | [], _ :: _, h => by cases h
  | _ :: _, [], h => by cases h
theorem chkV_rel (g : G) {u : Value} {v : V} (h : chkV u v = true) : RelV g v u := by
  unfold chkV at h
  split at h
  · rename_i us cs
    obtain ⟨a, b⟩ := chkL_rel g h
    exact ⟨us.toList, by simp, a, b⟩
  · rename_i us cs
    obtain ⟨a, b⟩ := chkL_rel g h
    exact ⟨us.toList, by simp, a⟩
  · exact (chkC_rel g h).1

/-- The frames hang together. -/
def RelF (g : G) (n : Nat) (fr : Fr) (tmps : Array Value) : Prop := tmps.size = n ∧ ∀ i, i < n → RelV g (fr i) (tmps.getD i undef)

theorem RelF.mono {g g' : G} (h : g.le g') {n : Nat} {fr : Fr} {tmps : Array Value} (k : RelF g n fr tmps) : RelF g' n fr tmps :=
  ⟨k.1, fun i hi => RelV_mono h _ _ (k.2 i hi)⟩

theorem RelF.put {g : G} {n : Nat} {fr : Fr} {a : Act} (k : RelF g n fr a.tmps) {d : Option Nat} {v : V} {u : Value} (h : RelV g v u) : RelF g n (fr.put d v) (a.put d u).tmps := by
  cases d with
  | none => exact k
  | some d =>
    refine ⟨by simpa [Act.put] using k.1, fun i hi => ?_⟩
    simp only [Fr.put, Act.put]
    split
    · rename_i e; subst e
      have : i < a.tmps.size := by rw [k.1]; exact hi
      simp [Array.getElem?_setIfInBounds, this]
      exact h
    · rename_i e
      have := k.2 i hi
      simpa [Array.getElem?_setIfInBounds_ne (Ne.symm e)] using this

theorem chkA_rel {g : G} {n : Nat} {fr : Fr} {a : Act} (k : RelF g n fr a.tmps) {x : Operand} {y : Arg} (h : chkA n x y = true) : RelV g (y.ev fr) (a.eval x) := by
  unfold chkA at h
  split at h
  · simp only [Bool.and_eq_true, decide_eq_true_eq] at h
    obtain ⟨rfl, h⟩ := h
    exact k.2 _ h
  · exact chkV_rel g h
  · have h := of_decide_eq_true h
    subst h
    exact ⟨[], [], rfl, rfl, rfl⟩
  · cases h
theorem chkAs_rel {g : G} {n : Nat} {fr : Fr} {a : Act} (k : RelF g n fr a.tmps) : ∀ {xs : List Operand} {ys : List Arg}, chkAs n xs ys = true → RelL g (ys.map (Arg.ev fr)) (xs.map a.eval)
  | [], [], _ => rfl
  | x :: xs, y :: ys, h => by
    simp only [chkAs, Bool.and_eq_true] at h
    exact ⟨_, _, rfl, chkA_rel k h.1, chkAs_rel k h.2⟩
  | [], _ :: _, h => by cases h
  | _ :: _, [], h => by cases h

def szOf (P : Program) (t : TypeId) : Option Nat := (P.info? t).map (·.size)
def aggOf (P : Program) (t : TypeId) : Option Bool := (P.underlying t).map fun | .struct _ | .array _ _ => true | _ => false

theorem szOf_run {P : Program} {t : TypeId} {n : Nat} (h : szOf P t = some n) (w : World) : (Go.sizeOf t).run P w = .ok n w := by
  unfold szOf at h
  obtain ⟨i, hi, rfl⟩ := Option.map_eq_some_iff.1 h
  simp [Go.sizeOf, typeInfo, hi]
theorem aggOf_run {P : Program} {t : TypeId} {b : Bool} (h : aggOf P t = some b) (w : World) : (isAgg t).run P w = .ok b w := by
  unfold aggOf at h
  obtain ⟨d, hd, rfl⟩ := Option.map_eq_some_iff.1 h
  simp only [isAgg, Sem.run_bind, run_underlying hd, Result.andThen_ok]
  cases d <;> rfl

theorem add_at (b p n : Nat) : (⟨b, p, none⟩ : Addr).add n = ⟨b, p + n, none⟩ := by unfold Addr.add; split <;> simp_all

/-- These cells are read from there on. -/
def Reads (w : World) (b p : Nat) (xs : List Value) : Prop := ∀ (j : Nat) (v : Value), xs[j]? = some v → w.cell? ⟨b, p + j, none⟩ = some v

theorem Reads.drop {w : World} {b p : Nat} {us : List Value} (k : Reads w b p us) (m : Nat) : Reads w b (p + m) (us.drop m) := fun j v hv => by
  rw [List.getElem?_drop] at hv
  have := k (m + j) v hv
  rwa [← Nat.add_assoc] at this
theorem Reads.take {w : World} {b p : Nat} {us : List Value} (k : Reads w b p us) (m : Nat) : Reads w b p (us.take m) := fun j v hv => by
  rw [List.getElem?_take] at hv
  split at hv
  · exact k j v hv
  · cases hv

theorem RelW.reads {w0 w : World} {g : G} {S : St} (h : RelW w0 g S w) {b p : Nat} {us : List Value} (k : Iced g b p us) : Reads w b p us := fun j v hv => h.ice _ _ _ (k j v hv)

theorem RelW.cells {w0 w : World} {g : G} {S : St} (h : RelW w0 g S w) {i : Nat} {cs : List V} (hc : S.cells i = some cs) :
    ∃ xs, RelL g cs xs ∧ Ones xs ∧ Reads w (g.loc i).1 (g.loc i).2 xs := by
  unfold St.cells at hc
  split at hc
  · rename_i cs' hcs
    injection hc with hc; subst hc
    obtain ⟨_, _, o, ho, us, ty, fr, rfl, _, _, _, xs, r, on, hr⟩ := h.hp i _ hcs
    refine ⟨xs, r, on, fun j v hv => ?_⟩
    rw [cell_of_row w _ _ us ty fr ho]
    exact hr j v hv
  · cases hc

theorem run_loadVar_reads {P : Program} {w : World} {t : TypeId} {agg : Bool} {sz : Nat} (ha : aggOf P t = some agg) (hs : szOf P t = some sz) {g : G} {cs : List V} {xs : List Value} {b p : Nat}
    (hr : RelL g cs xs) (ho : Ones xs) (hx : Reads w b p xs) {v : V} (hv : takeC agg sz cs = some v) : ∃ u, (loadVar t ⟨b, p, none⟩).run P w = .ok u w ∧ RelV g v u := by
  unfold takeC at hv
  cases agg with
  | true =>
    simp only [if_true] at hv
    split at hv
    · rename_i hle
      injection hv with hv; subst hv
      have hl : (xs.take sz).length = sz := by rw [List.length_take, ← hr.len]; omega
      refine ⟨.agg (xs.take sz).toArray, ?_, xs.take sz, rfl, hr.take sz, ho.take sz⟩
      have hrun := run_loadCells_list (P := P) w ⟨b, p, none⟩ (xs.take sz) (fun j v hj => by rw [add_at]; exact hx.take sz j v hj)
      rw [hl] at hrun
      simp [loadVar, aggOf_run ha, szOf_run hs, hrun]
    · cases hv
  | false =>
    simp only [Bool.false_eq_true, if_false] at hv
    have hc0 : cs[0]? = some v := by cases cs <;> simp at hv ⊢; exact hv
    obtain ⟨u, hu, hrel⟩ := hr.at_ hc0
    refine ⟨u, ?_, hrel⟩
    have := hx 0 u hu
    rw [Nat.add_zero] at this
    simp [loadVar, aggOf_run ha, this]

end Go.VM
