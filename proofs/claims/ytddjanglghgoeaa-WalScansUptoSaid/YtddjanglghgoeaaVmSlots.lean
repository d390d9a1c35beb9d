/-
  The value machine: which slots an operation looks at; what it tells hangs on these alone.
-/
import Derived.Test.YtddjanglghgoeaaVmDef
set_option linter.unusedVariables false
set_option linter.unusedSimpArgs false
namespace Go.VM
open Go

def Arg.slots : Arg → List Nat
  | .t i => [i]
  | .c _ => []
def optSlots : Option Arg → List Nat
  | some a => a.slots
  | none => []
def FI.slots : FI → List Nat
  | .mv x | .nilCheck x | .un _ x | .conv _ x | .fieldAddr _ x | .field _ _ _ x | .load _ _ x | .len _ x | .mkIface _ x | .extract x _ | .assertT _ _ _ x => x.slots
  | .pick c a b => c.slots ++ (a.slots ++ b.slots)
  | .bin _ x y | .eq _ _ x y | .indexAddr _ x y | .indexAddrA _ _ x y | .indexS x y | .indexA _ _ _ x y | .lookup _ _ _ x y => x.slots ++ y.slots
  | .sliceS x lo hi => x.slots ++ (optSlots lo ++ optSlots hi)
  | .slice _ x lo hi mx => x.slots ++ (optSlots lo ++ (optSlots hi ++ optSlots mx))
  | .build _ parts => parts.flatMap fun p => p.2.2.slots
  | .mkFunc _ pre cap => pre.flatMap Arg.slots ++ cap.flatMap Arg.slots
  | .minmax _ xs => xs.flatMap Arg.slots
def EI.slots : EI → List Nat
  | .alloc _ | .makeMap => []
  | .box x | .range x | .next x | .strBytes x | .bytesSame x | .frz x | .panic x => x.slots
  | .buildSlice _ _ _ _ parts => parts.flatMap fun p => p.2.2.slots
  | .store _ a x => a.slots ++ x.slots
  | .append _ _ _ s x | .copy _ s x => s.slots ++ x.slots
  | .makeSlice _ _ _ _ l c => l.slots ++ c.slots
  | .mapSet _ m k v => m.slots ++ (k.slots ++ v.slots)
  | .delete _ m k => m.slots ++ k.slots
  | .call _ args => args.flatMap Arg.slots
  | .callV x args => x.slots ++ args.flatMap Arg.slots
def I.slots : I → List Nat
  | .f i => i.slots
  | .e i => i.slots
def gSlots : Option (Nat × Bool) → List Nat
  | some (t, _) => [t]
  | none => []

/-- Frames that agree on these slots. -/
def AgreeOn (l : List Nat) (fr fr' : Fr) : Prop := ∀ t ∈ l, fr t = fr' t

section
variable {fr fr' : Fr}
theorem AgreeOn.left {l m : List Nat} (h : AgreeOn (l ++ m) fr fr') : AgreeOn l fr fr' := fun t ht => h t (List.mem_append_left _ ht)
theorem AgreeOn.right {l m : List Nat} (h : AgreeOn (l ++ m) fr fr') : AgreeOn m fr fr' := fun t ht => h t (List.mem_append_right _ ht)
theorem ev_congr {x : Arg} (h : AgreeOn x.slots fr fr') : x.ev fr = x.ev fr' := by
  cases x with
  | t i => exact h i (by simp [Arg.slots])
  | c v => rfl
theorem evs_congr {xs : List Arg} (h : AgreeOn (xs.flatMap Arg.slots) fr fr') : xs.map (Arg.ev fr) = xs.map (Arg.ev fr') := by
  apply List.map_congr_left
  intro x hx
  exact ev_congr fun t ht => h t (List.mem_flatMap.2 ⟨x, hx, ht⟩)
theorem fill_congr : ∀ {parts : List (Nat × Nat × Arg)} (zero : List V), AgreeOn (parts.flatMap fun p => p.2.2.slots) fr fr' → fillV fr zero parts = fillV fr' zero parts
  | [], _, _ => rfl
  | (off, sz, x) :: r, zero, h => by
    have hx : x.ev fr = x.ev fr' := ev_congr fun t ht => h t (by simp [ht])
    have hr : AgreeOn (r.flatMap fun p => p.2.2.slots) fr fr' := fun t ht => h t (by
      rw [List.flatMap_cons]; exact List.mem_append_right _ ht)
    simp only [fillV, hx]
    split
    · exact fill_congr _ hr
    · rfl
theorem bounds_congr {len : Nat} {lo hi : Option Arg} (h1 : AgreeOn (optSlots lo) fr fr') (h2 : AgreeOn (optSlots hi) fr fr') : bounds fr len lo hi = bounds fr' len lo hi := by
  unfold bounds
  cases lo <;> cases hi <;> simp only [optSlots] at h1 h2
  · rfl
  · simp only [ev_congr h2]
  · simp only [ev_congr h1]
  · simp only [ev_congr h1, ev_congr h2]
theorem slice_congr {sz : Nat} {lo hi mx : Option Arg} (h1 : AgreeOn (optSlots lo) fr fr') (h2 : AgreeOn (optSlots hi) fr fr') (h3 : AgreeOn (optSlots mx) fr fr') (v : V) : sliceV fr sz lo hi mx v = sliceV fr' sz lo hi mx v := by
  unfold sliceV
  have hb : ∀ len, bounds fr len lo hi = bounds fr' len lo hi := fun len => bounds_congr h1 h2
  cases mx with
  | none => simp only [hb]
  | some a =>
    have : a.ev fr = a.ev fr' := ev_congr h3
    simp only [hb, this]

theorem aF_congr {i : FI} (S : St) (h : AgreeOn i.slots fr fr') : aF i fr S = aF i fr' S := by
  cases i <;> simp only [FI.slots] at h
  case build z parts => simp only [aF]; rw [fill_congr _ h]
  case mkFunc f pre cap => simp only [aF]; rw [evs_congr h.left, evs_congr h.right]
  case minmax m xs =>
    simp only [aF]
    cases xs with
    | nil => rfl
    | cons x r =>
      have hx : x.ev fr = x.ev fr' := ev_congr fun t ht => h t (by simp [ht])
      have hr : r.map (Arg.ev fr) = r.map (Arg.ev fr') := evs_congr fun t ht => h t (by
        rw [List.flatMap_cons]; exact List.mem_append_right _ ht)
      simp only [hx, hr]
  case sliceS x lo hi => simp only [aF]; rw [ev_congr h.left]; simp only [bounds_congr h.right.left h.right.right]
  case slice sz x lo hi mx => simp only [aF]; rw [ev_congr h.left]; exact slice_congr h.right.left h.right.right.left h.right.right.right _
  case pick => simp only [aF]; rw [ev_congr h.left, ev_congr h.right.left, ev_congr h.right.right]
  case len k x => cases k <;> simp only [aF] <;> rw [ev_congr h]
  all_goals (simp only [aF])
  all_goals (first | rw [ev_congr h] | rw [ev_congr h.left, ev_congr h.right])

theorem wE_congr {cl : Cl} {i : EI} (S : St) {K Kp : V → St → Prop} (h : AgreeOn i.slots fr fr') : wE cl i fr S K Kp → wE cl i fr' S K Kp := by
  cases i <;> simp only [EI.slots] at h
  case buildSlice => simp only [wE]; rw [fill_congr _ h]; exact id
  case call => simp only [wE]; rw [evs_congr h]; exact id
  case callV => simp only [wE]; rw [ev_congr h.left, evs_congr h.right]; exact id
  case mapSet => simp only [wE]; rw [ev_congr h.left, ev_congr h.right.left, ev_congr h.right.right]; exact id
  all_goals (simp only [wE])
  all_goals (first | exact id | (rw [ev_congr h]; exact id) | (rw [ev_congr h.left, ev_congr h.right]; exact id))

theorem wanted_congr {g : Option (Nat × Bool)} (h : AgreeOn (gSlots g) fr fr') : wanted fr g = wanted fr' g := by
  cases g with
  | none => rfl
  | some q =>
    obtain ⟨t, b⟩ := q
    simp only [wanted]
    rw [h t (by simp [gSlots])]

/-- What looks at the store. -/
def FI.reader : FI → Bool
  | .load .. | .len .map _ | .lookup .. | .conv .bytesStr _ => true
  | _ => false
theorem aF_store {i : FI} (h : i.reader = false) (fr : Fr) (S S' : St) : aF i fr S = aF i fr S' := by
  cases i <;> simp only [FI.reader] at h <;> (try (cases h; done)) <;> (try rfl)
  case conv c x => cases c <;> simp only [FI.reader] at h <;> (try (cases h; done)) <;> simp only [aF] <;> generalize x.ev fr = v <;> cases v <;> rfl
  case len k x => cases k <;> simp only [FI.reader] at h <;> (try (cases h; done)) <;> rfl
end
end Go.VM
