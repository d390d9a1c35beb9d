/-
  The value machine: what is shown of fewer ends is shown of more; a call may be laid open.
-/
import Derived.Test.YtddjanglghgoeaaVmDef
set_option linter.unusedVariables false
set_option linter.unusedSimpArgs false
namespace Go.VM
open Go

def ClLe (cl cl' : Cl) : Prop := ∀ f args S (Q Q' : AEnd → St → Prop), (∀ e S, Q e S → Q' e S) → cl f args S Q → cl' f args S Q'

section
variable {cl cl' : Cl}

theorem wE_mono (h : ClLe cl cl') (i : EI) (fr : Fr) (S : St) {K K' Kp Kp' : V → St → Prop} (hK : ∀ v S, K v S → K' v S) (hp : ∀ v S, Kp v S → Kp' v S) :
    wE cl i fr S K Kp → wE cl' i fr S K' Kp' := by
  cases i <;> simp only [wE]
  case alloc => exact hK _ _
  case box => exact fun ⟨a, b⟩ => ⟨a, hK _ _ b⟩
  case buildSlice => split <;> (try exact id); split <;> exact hK _ _
  case store => split <;> (try exact id); split <;> (try exact id); exact fun ⟨a, b, c, d⟩ => ⟨a, b, c, hK _ _ d⟩
  case append => split <;> (try exact id); split <;> (try exact id); exact hK _ _
  case copy => split <;> (try exact id); (split <;> (try exact id)); exact fun ⟨a, b, d⟩ => ⟨a, b, hK _ _ d⟩; exact fun ⟨a, d⟩ => ⟨a, hK _ _ d⟩
  case makeSlice =>
    split <;> (try exact id)
    split <;> (try exact id)
    split
    · exact fun ⟨a, b⟩ => ⟨a, hK _ _ b⟩
    · split <;> exact hK _ _
  case makeMap => exact hK _ _
  case mapSet =>
    split <;> (try exact id)
    split <;> (try exact id)
    refine fun ⟨a, b, c⟩ => ⟨a, b, ?_⟩
    revert c
    split <;> first | exact id | exact hK _ _
  case delete =>
    split <;> (try exact id)
    · exact fun ⟨a, b⟩ => ⟨a, hK _ _ b⟩
    split <;> (try exact id)
    refine fun ⟨b, c⟩ => ⟨b, ?_⟩
    revert c
    split <;> first | exact id | exact hK _ _
  case range =>
    split <;> (try exact id)
    · exact hK _ _
    split <;> first | exact id | exact hK _ _
  case next =>
    split <;> (try exact id)
    split <;> (try exact id)
    · exact hK _ _
    split <;> (try exact id)
    exact fun ⟨z, a, b, c, d⟩ => ⟨z, a, b, fun x => hK _ _ (c x), fun e he hs => hK _ _ (d e he hs)⟩
  case strBytes => split <;> first | exact id | exact hK _ _
  case bytesSame => split <;> first | exact id | exact fun ⟨a, b⟩ => ⟨a, hK _ _ b⟩
  case frz => split <;> (try exact id); (split <;> first | exact id | exact fun ⟨a, b⟩ => ⟨a, hK _ _ b⟩); exact hK _ _
  case call => exact h _ _ _ _ _ fun e S he => by cases e <;> first | exact hK _ _ he | exact hp _ _ he
  case callV => split <;> first | exact id | exact h _ _ _ _ _ fun e S he => by cases e <;> first | exact hK _ _ he | exact hp _ _ he
  case panic => split <;> first | exact id | exact hp _ _

theorem wItem_mono (h : ClLe cl cl') (x : Item) (fr : Fr) (S : St) {K K' : Fr → St → Prop} {Kp Kp' : V → St → Prop} (hK : ∀ v S, K v S → K' v S) (hp : ∀ v S, Kp v S → Kp' v S) :
    wItem cl x fr S K Kp → wItem cl' x fr S K' Kp' := by
  cases x with
  | run o =>
    simp only [wItem]
    split <;> (try exact id)
    · split
      · split <;> first | exact id | exact hK _ _
      · exact wE_mono h _ _ _ (fun _ _ => hK _ _) hp
    · exact hK _ _
  | chk d g i =>
    simp only [wItem]
    split <;> (try exact id)
    · exact fun ⟨a, b⟩ => ⟨a, hK _ _ b⟩
    · exact hK _ _

theorem wItems_mono (h : ClLe cl cl') : ∀ (l : List Item) (fr : Fr) (S : St) {K K' : Fr → St → Prop} {Kp Kp' : V → St → Prop} (_ : ∀ v S, K v S → K' v S) (_ : ∀ v S, Kp v S → Kp' v S),
    wItems cl l fr S K Kp → wItems cl' l fr S K' Kp'
  | [], _, _, _, _, _, _, hK, _ => hK _ _
  | x :: r, fr, S, _, _, _, _, hK, hp => wItem_mono h x fr S (fun _ _ => wItems_mono h r _ _ hK hp) hp

theorem thenQ_mono {K K' : Fr → St → Prop} {Q Q' : CPost} (hK : ∀ fr S, K fr S → K' fr S) (hQ : ∀ e fr S, Q e fr S → Q' e fr S) : ∀ e fr S, thenQ K Q e fr S → thenQ K' Q' e fr S := by
  intro e fr S
  cases e <;> simp only [thenQ] <;> first | exact hK _ _ | exact hQ _ _ _
theorem blkQ_mono {id : Nat} {Q Q' : CPost} (hQ : ∀ e fr S, Q e fr S → Q' e fr S) : ∀ e fr S, blkQ id Q e fr S → blkQ id Q' e fr S := by
  intro e fr S
  cases e <;> simp only [blkQ] <;> (try exact hQ _ _ _)
  split <;> exact hQ _ _ _

theorem Loop_mono {b b' : Fr → St → CPost → Prop} (hb : ∀ fr S (Q Q' : CPost), (∀ e fr S, Q e fr S → Q' e fr S) → b fr S Q → b' fr S Q') {Q Q' : CPost} (hQ : ∀ e fr S, Q e fr S → Q' e fr S) (fr : Fr) (S : St) :
    Loop b Q fr S → Loop b' Q' fr S := by
  intro h L hL
  exact h L fun fr S hh => hL fr S (hb fr S _ _ (thenQ_mono (fun _ _ => id) hQ) hh)

theorem wCode_mono (h : ClLe cl cl') : ∀ (c : Cd) (fr : Fr) (S : St) (Q Q' : CPost), (∀ e fr S, Q e fr S → Q' e fr S) → wCode cl c fr S Q → wCode cl' c fr S Q' := by
  intro c
  induction c with
  | skip => exact fun fr S Q Q' hQ => hQ _ _ _
  | reg id items => exact fun fr S Q Q' hQ => wItems_mono h items fr S (fun _ _ => hQ _ _ _) (fun _ _ => hQ _ _ _)
  | seq a b iha ihb => exact fun fr S Q Q' hQ => iha fr S _ _ (thenQ_mono (fun fr S => ihb fr S _ _ hQ) hQ)
  | ite c a b iha ihb =>
    intro fr S Q Q' hQ
    simp only [wCode]
    split
    · exact iha fr S _ _ hQ
    · exact ihb fr S _ _ hQ
    · exact id
  | blk id c ih => exact fun fr S Q Q' hQ => ih fr S _ _ (blkQ_mono hQ)
  | loop c ih => exact fun fr S Q Q' hQ => Loop_mono (fun fr S Q Q' => ih fr S Q Q') hQ fr S
  | exit id => exact fun fr S Q Q' hQ => hQ _ _ _
  | ret => exact fun fr S Q Q' hQ => hQ _ _ _
  | alt i j a b iha ihb => exact fun fr S Q Q' hQ h => ⟨iha fr S _ _ hQ h.1, ihb fr S _ _ hQ h.2⟩
end

/-- One round more. -/
theorem Loop.fold {cl : Cl} (hcl : ClLe cl cl) {c : Cd} {Q : CPost} {fr : Fr} {S : St} (h : wCode cl c fr S (thenQ (fun fr S => wCode cl (.loop c) fr S Q) Q)) : wCode cl (.loop c) fr S Q := by
  intro L hL
  refine hL fr S (wCode_mono hcl c fr S _ _ (thenQ_mono (fun fr S hh => hh L hL) fun _ _ _ => id) h)

/-- The functions that are taken as they are told. -/
def PrimMono (p : Pg) : Prop := ∀ f w, p.prim f = some w → ∀ args S (Q Q' : AEnd → St → Prop), (∀ e S, Q e S → Q' e S) → w args S Q → w args S Q'

theorem bodyQ_mono (fc : FnC) {Q Q' : AEnd → St → Prop} (hQ : ∀ e S, Q e S → Q' e S) : ∀ e fr S, bodyQ fc Q e fr S → bodyQ fc Q' e fr S := by
  intro e fr S
  cases e <;> simp only [bodyQ] <;> (try exact id) <;> (try exact hQ _ _)
  all_goals (split <;> first | exact hQ _ _ | exact id)

theorem wStep_mono {p : Pg} (hp : PrimMono p) {cl cl' : Cl} (h : ClLe cl cl') : ClLe (wStep p cl) (wStep p cl') := by
  intro f args S Q Q' hQ
  unfold wStep
  split
  · rename_i w hw
    exact hp f w hw args S Q Q' hQ
  · split
    · rename_i fc _
      exact wCode_mono h _ _ _ _ _ (bodyQ_mono fc hQ)
    · exact id

section
variable {p : Pg} (hp : PrimMono p)
include hp

theorem Runs.mono {f : FuncId} {args : List V} {S : St} {Q Q' : AEnd → St → Prop} (hQ : ∀ e S, Q e S → Q' e S) (h : Runs p f args S Q) : Runs p f args S Q' := by
  intro R hR
  have key := h (fun f args S Q => ∀ Q', (∀ e S, Q e S → Q' e S) → R f args S Q') (fun f args S Q hh Q' hQ' => hR f args S Q' ?_)
  · exact key Q' hQ
  · exact wStep_mono hp (fun f args S Q Q' hQ hh => hh Q' hQ) f args S Q Q' hQ' hh

theorem Runs.le : ClLe (Runs p) (Runs p) := fun _ _ _ _ _ hQ h => Runs.mono hp hQ h

theorem Runs.fold {f : FuncId} {args : List V} {S : St} {Q : AEnd → St → Prop} (h : wStep p (Runs p) f args S Q) : Runs p f args S Q := by
  intro R hR
  refine hR f args S Q (wStep_mono hp (fun f args S Q Q' hQ hh => ?_) f args S Q Q (fun _ _ => id) h)
  exact (Runs.mono hp hQ hh) R hR
end
end Go.VM
