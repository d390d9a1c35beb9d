/-
  The value machine: a call. What a function's code does here, its call does in the model.
-/
import Derived.Test.YtddjanglghgoeaaVmCode
import Derived.Test.YtddjanglghgoeaaVmMono
set_option linter.unusedVariables false
set_option linter.unusedSimpArgs false
namespace Go.VM
open Go Go.RowKit

def chkRV (P : Program) (n : Nat) : ResultVar → RV → Bool
  | .tmp t, .tmp t' => decide (t = t') && decide (t < n)
  | .cell x t, .cell x' agg sz => decide (x = x') && decide (x < n) && decide (szOf P t = some sz) && decide (aggOf P t = some agg)
  | _, _ => false
def chkRVs (P : Program) (n : Nat) : List ResultVar → List RV → Bool
  | [], [] => true
  | x :: xs, y :: ys => chkRV P n x y && chkRVs P n xs ys
  | _, _ => false

def chkFn (P : Program) (f : FuncId) (fc : FnC) : Bool :=
  match P.funcs[f]? with
  | some fn => match fn.body with
    | some c => !(fn.name == "runtime.NumGoroutine") && decide (fn.ntmps = fc.ntmps) && chkRVs P fc.ntmps fn.results.toList fc.res && chkCode P fc.ntmps c fc.body
    | none => false
  | none => false

section
variable {P : Program} {w0 : World}

def readR (tmps : Array Value) : ResultVar → Sem Value
  | .tmp t => pure (tmps.getD t undef)
  | .cell a t => do loadVar t (← asAddr (tmps.getD a undef))

theorem readRV_sim {g : G} {S : St} {w : World} {n : Nat} {fr : Fr} {tmps : Array Value} (hW : RelW w0 g S w) (hF : RelF g n fr tmps) {x : ResultVar} {y : RV} (hc : chkRV P n x y = true) {v : V} (hv : readRV fr S y = some v) :
    ∃ u, (readR tmps x).run P w = .ok u w ∧ RelV g v u := by
  unfold chkRV at hc
  split at hc
  · simp only [Bool.and_eq_true, decide_eq_true_eq] at hc
    obtain ⟨rfl, ht⟩ := hc
    simp only [readRV] at hv
    injection hv with hv; subst hv
    exact ⟨_, rfl, hF.2 _ ht⟩
  · rename_i x t x' agg sz
    simp only [Bool.and_eq_true, decide_eq_true_eq] at hc
    obtain ⟨⟨⟨rfl, hx⟩, hs⟩, ha⟩ := hc
    have k := hF.2 _ hx
    simp only [readRV, aF, Arg.ev] at hv
    split at hv
    · rename_i i off he
      obtain ⟨cs, hcs, hv⟩ := Option.bind_eq_some_iff.1 hv
      rw [he] at k
      obtain ⟨k1, e⟩ := k
      obtain ⟨xs, r, on, rd⟩ := hW.cells hcs
      obtain ⟨u, eu, ku⟩ := run_loadVar_reads (P := P) ha hs (r.drop off) (on.drop off) (rd.drop off) hv
      exact ⟨u, by simp [readR, asAddr, e, eu], ku⟩
    · rename_i cs he
      rw [he] at k
      obtain ⟨b, p, us, e, r, on, ic⟩ := k
      obtain ⟨u, eu, ku⟩ := run_loadVar_reads (P := P) ha hs r on (hW.reads ic) hv
      exact ⟨u, by simp [readR, asAddr, e, eu], ku⟩
    · cases hv
  · cases hc

theorem readRVs_sim {g : G} {S : St} {w : World} {n : Nat} {fr : Fr} {tmps : Array Value} (hW : RelW w0 g S w) (hF : RelF g n fr tmps) : ∀ {xs : List ResultVar} {ys : List RV}, chkRVs P n xs ys = true → ∀ {vs : List V}, ys.mapM (readRV fr S) = some vs →
    ∃ us, (xs.mapM (readR tmps)).run P w = .ok us w ∧ RelL g vs us
  | [], [], _, vs, hv => by
    simp at hv; subst hv
    exact ⟨[], rfl, rfl⟩
  | x :: xs, y :: ys, hc, vs, hv => by
    simp only [chkRVs, Bool.and_eq_true] at hc
    rw [List.mapM_cons] at hv
    obtain ⟨v, hv1, hv⟩ := Option.bind_eq_some_iff.1 hv
    obtain ⟨vs', hv2, hv⟩ := Option.bind_eq_some_iff.1 hv
    injection hv with hv; subst hv
    obtain ⟨u, e1, k1⟩ := readRV_sim hW hF hc.1 hv1
    obtain ⟨us, e2, k2⟩ := readRVs_sim hW hF hc.2 hv2
    exact ⟨u :: us, by simp [List.mapM_cons, e1, e2], ⟨u, us, rfl, k1, k2⟩⟩
  | [], _ :: _, h, _, _ => by cases h
  | _ :: _, [], h, _, _ => by cases h

theorem results_run {fn : Func} {tmps : Array Value} {us : List Value} {w : World} (h : (fn.results.toList.mapM (readR tmps)).run P w = .ok us w) :
    (results fn tmps).run P w = .ok (match us with | [u] => u | us => .tuple us.toArray) w := by
  have e : results fn tmps = (do let vs ← fn.results.mapM (readR tmps); pure (if h : vs.size = 1 then vs[0] else .tuple vs)) := by
    unfold results
    congr 1
  rw [e, Array.mapM_eq_mapM_toList]
  simp only [Sem.run_bind, Sem.run_map, h, Result.andThen_ok]
  rcases us with _ | ⟨u, _ | ⟨u', us⟩⟩ <;> simp

theorem res_sim {g : G} {S : St} {w : World} {n : Nat} {fr : Fr} {tmps : Array Value} (hW : RelW w0 g S w) (hF : RelF g n fr tmps) {fn : Func} {ys : List RV} (hc : chkRVs P n fn.results.toList ys = true) {v : V} (hv : readRes fr S ys = some v) :
    ∃ u, (results fn tmps).run P w = .ok u w ∧ RelV g v u := by
  rcases ys with _ | ⟨y, _ | ⟨y', ys⟩⟩
  · simp only [readRes] at hv
    injection hv with hv; subst hv
    obtain ⟨us, e, k⟩ := readRVs_sim (vs := []) hW hF hc (by rfl)
    have e' := results_run e
    have : us = [] := k
    subst this
    exact ⟨_, e', ⟨[], rfl, rfl⟩⟩
  · simp only [readRes] at hv
    obtain ⟨us, e, k⟩ := readRVs_sim (vs := [v]) hW hF hc (by simp [hv])
    have e' := results_run e
    obtain ⟨u, us', rfl, k1, k2⟩ := k
    have : us' = [] := k2
    subst this
    exact ⟨_, e', k1⟩
  · simp only [readRes] at hv
    obtain ⟨vs, hvs, rfl⟩ := Option.map_eq_some_iff.1 hv
    obtain ⟨us, e, k⟩ := readRVs_sim hW hF hc hvs
    have e' := results_run e
    rw [List.mapM_cons] at hvs
    obtain ⟨v1, _, hvs⟩ := Option.bind_eq_some_iff.1 hvs
    obtain ⟨vs', hvs', hvs⟩ := Option.bind_eq_some_iff.1 hvs
    injection hvs with hvs; subst hvs
    rw [List.mapM_cons] at hvs'
    obtain ⟨v2, _, hvs'⟩ := Option.bind_eq_some_iff.1 hvs'
    obtain ⟨vs2, _, hvs'⟩ := Option.bind_eq_some_iff.1 hvs'
    injection hvs' with hvs'; subst hvs'
    obtain ⟨u1, us1, rfl, k1, u2, us2, rfl, k2, k3⟩ := k
    exact ⟨_, e', ⟨u1 :: u2 :: us2, rfl, ⟨u1, _, rfl, k1, u2, _, rfl, k2, k3⟩⟩⟩

theorem RelL.getD {g : G} : ∀ {vs : List V} {us : List Value}, RelL g vs us → ∀ i, RelV g (vs.getD i (.tup [])) (us.getD i undef)
  | [], us, h, i => by
    have : us = [] := h
    subst this
    simp only [List.getD_nil]
    exact ⟨[], rfl, rfl⟩
  | v :: vs, us, h, i => by
    obtain ⟨u, us', rfl, h1, h2⟩ := h
    cases i with
    | zero => exact h1
    | succ i => simpa using RelL.getD h2 i

theorem RSim.mono {f : FuncId} {args : List V} {S : St} {Q Q' : AEnd → St → Prop} (h : RSim P w0 f args S Q) (hQ : ∀ e S, Q e S → Q' e S) : RSim P w0 f args S Q' :=
  ⟨h.1, fun g w us hW hr => (h.2 g w us hW hr).mono fun e w' ⟨g', S', e', a, b, c, d⟩ => ⟨g', S', e', a, b, c, hQ _ _ d⟩⟩
theorem RSim.le : ClLe (RSim P w0) (RSim P w0) := fun _ _ _ _ _ hQ h => h.mono hQ

/-- A call does what the code does. -/
theorem RSim.code (hm : P.follows .mixedOrders = true) {f : FuncId} {fc : FnC} (hc : chkFn P f fc = true) {args : List V} {S : St} {Q : AEnd → St → Prop} (hn : args.length ≤ fc.ntmps)
    (h : wCode (RSim P w0) fc.body (frame0 args) S (bodyQ fc Q)) : RSim P w0 f args S Q := by
  unfold chkFn at hc
  split at hc <;> (try (cases hc; done))
  rename_i fn hfn
  split at hc <;> (try (cases hc; done))
  rename_i c hb
  simp only [Bool.and_eq_true, decide_eq_true_eq, Bool.not_eq_true'] at hc
  obtain ⟨⟨⟨h1, h2⟩, h3⟩, h4⟩ := hc
  refine ⟨⟨fn, hfn, by rw [hb]; rfl, h1⟩, fun g w us hW hr => ?_⟩
  refine calls_of_wp hfn hb ?_
  have hlen : us.length = args.length := hr.len.symm
  have hF : RelF g fc.ntmps (frame0 args) (us.toArray ++ Array.replicate (fn.ntmps - us.toArray.size) undef) := by
    refine ⟨by simp; omega, fun i hi => ?_⟩
    have e : (us.toArray ++ Array.replicate (fn.ntmps - us.toArray.size) undef).getD i undef = us.getD i undef := by
      simp only [Array.getD_eq_getD_getElem?, List.getD, Array.getElem?_append]
      split
      · simp
      · rename_i hh
        simp at hh
        rw [List.getElem?_eq_none hh, Array.getElem?_replicate]
        split <;> rfl
    rw [e]
    exact hr.getD i
  refine wp_mono (sim_code hm h4 (G.le.refl g) hW hF rfl h) fun e a' w' q => ?_
  cases e with
  | normal =>
    obtain ⟨hd, g', fr', S', hl, hW', hF', hk⟩ := q
    simp only [bodyQ] at hk
    split at hk <;> (try (cases hk; done))
    rename_i v hv
    obtain ⟨u, e1, k1⟩ := res_sim hW' hF' h3 hv
    exact ⟨hd, u, e1, g', S', .ret v, hl, hW', k1, hk⟩
  | ret =>
    obtain ⟨hd, g', fr', S', hl, hW', hF', hk⟩ := q
    simp only [bodyQ] at hk
    split at hk <;> (try (cases hk; done))
    rename_i v hv
    obtain ⟨u, e1, k1⟩ := res_sim hW' hF' h3 hv
    exact ⟨hd, u, e1, g', S', .ret v, hl, hW', k1, hk⟩
  | exit id =>
    obtain ⟨hd, g', fr', S', hl, hW', hF', hk⟩ := q
    exact hk.elim
  | goto l => exact q.elim
  | panic ch =>
    obtain ⟨hd, g', fr', S', v, u, rfl, hl, hW', k1, hk⟩ := q
    exact ⟨hd, g', S', .pan v, hl, hW', ⟨u, rfl, k1⟩, hk⟩
  | outgrown => exact q.elim
end
end Go.VM
