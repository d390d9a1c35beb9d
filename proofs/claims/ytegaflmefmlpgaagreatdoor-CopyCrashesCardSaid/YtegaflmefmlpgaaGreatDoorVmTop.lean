/-
  The value machine: from a law's arguments to values, and from its run to the row.
-/
import Derived.Test.YtegaflmefmlpgaaGreatDoorVmStr
import Derived.ProofKit
import Derived.SizedLaws
set_option linter.unusedVariables false
set_option linter.unusedSimpArgs false
namespace Go.VM
open Go Go.RowKit

/-- What arguments may be: a struct is its fields, one behind the other. -/
inductive Ty
  | bool | int (k : IntKind) | str | slice (sz bytes : Nat) (e : Ty) | fin | field (s : Nat) (a r : Ty)

def HasTy : Ty → List V → Prop
  | .bool, cs => ∃ b, cs = [.bool b]
  | .int k, cs => ∃ n, cs = [.int k n] ∧ k.min ≤ n ∧ n ≤ k.max
  | .str, cs => ∃ s, cs = [.str s] ∧ s.size ≤ reachBytes
  | .slice sz bytes e, cs => ∃ (L : List (List V)) (t : Tok), cs = [.sl L.flatten L.length sz t] ∧ (t = .nil ∧ L = [] ∨ t = .no) ∧ L.length * bytes ≤ reachBytes ∧ ∀ c ∈ L, c.length = sz ∧ HasTy e c
  | .fin, cs => cs = []
  | .field s a r, cs => ∃ x y, cs = x ++ y ∧ x.length = s ∧ HasTy a x ∧ HasTy r y

mutual
def tyIs (P : Program) : Ty → TypeId → Bool
  | .bool, t => match P.underlying t with | some .bool => true | _ => false
  | .int k, t => match P.underlying t with | some (.int k') => decide (k = k') | _ => false
  | .str, t => match P.underlying t with | some .string => true | _ => false
  | .slice sz bytes e, t => match P.underlying t with | some (.slice e') => decide (P.cellsOf e' = sz) && decide (P.bytesOf e' = bytes) && decide (sz ≠ 0) && tyIs P e e' | _ => false
  | .fin, _ => false
  | .field s a r, t => match P.underlying t with
    | some (.struct fs) => (match fs.toList with
      | f :: fr => decide (f.offset = 0) && decide (P.cellsOf f.type = s) && decide (0 + s ≤ P.cellsOf t) && tyIs P a f.type && fieldsIs P r fr (0 + s) (P.cellsOf t)
      | [] => false)
    | _ => false
def fieldsIs (P : Program) : Ty → List Field → Nat → Nat → Bool
  | .fin, [], off, tot => decide (off = tot)
  | .field s a r, f :: fs, off, tot => decide (f.offset = off) && decide (P.cellsOf f.type = s) && decide (off + s ≤ tot) && tyIs P a f.type && fieldsIs P r fs (off + s) tot
  | _, _, _, _ => false
end

def g0 (W : World) : G := { ice := fun b p => W.cell? ⟨b, p, none⟩, loc := fun _ => (0, 0), n := 0, bs := fun _ => 0, nb := W.heap.size }
theorem relW_start (W : World) : RelW W (g0 W) St.empty W := by
  refine ⟨Below.refl _ _, rfl, rfl, fun _ _ _ h => h, fun i x h => ?_, fun i j x y h => ?_⟩
  · cases h
  · cases h

section
variable {H : Type} {enc : TypeId × Value → H} {P : Program} {W : World}

theorem mapM_some {α β : Type} {f : α → Option β} : ∀ {l : List α} {r : List β}, l.mapM f = some r → r.length = l.length ∧ ∀ (i : Nat) (a : α), l[i]? = some a → f a = r[i]?
  | [], r, h => by simp at h; subst h; exact ⟨rfl, fun i a h => by simp at h⟩
  | a :: l, r, h => by
    rw [List.mapM_cons] at h
    obtain ⟨b, hb, h⟩ := Option.bind_eq_some_iff.1 h
    obtain ⟨r', hr, h⟩ := Option.bind_eq_some_iff.1 h
    injection h with h; subst h
    obtain ⟨h1, h2⟩ := mapM_some hr
    refine ⟨by simp [h1], fun i x hx => ?_⟩
    cases i with
    | zero => simp at hx; subst hx; simpa using hb
    | succ i => simpa using h2 i x (by simpa using hx)

theorem cells_read {base : Nat} {a : Addr} {n : Nat} {cs : List Value} (h : W.cells? base a n = some cs) : cs.length = n ∧ ∀ i, i < n → W.cell? (a.add i) = cs[i]? := by
  unfold World.cells? at h
  split at h
  · obtain ⟨h1, h2⟩ := mapM_some h
    exact ⟨by simpa using h1, fun i hi => h2 i i (by simp [hi])⟩
  · cases h

theorem weights_all {e : TypeId} : ∀ {l : List (DataW H)} {d : DataW H}, d ∈ l → ∀ m ∈ d.weights P e, m ∈ DataW.weightsAll P e l
  | d0 :: l, d, h, m, hm => by
    simp only [DataW.weightsAll, List.mem_append]
    rcases List.mem_cons.1 h with rfl | h
    · exact .inl hm
    · exact .inr (weights_all h m hm)

theorem rows_of {sz : Nat} {e : Ty} {b p : Nat} : ∀ (len : Nat) (K : ∀ i, i < len → ∃ cs vs, cs.length = sz ∧ (∀ j, j < sz → W.cell? ⟨b, p + i * sz + j, none⟩ = cs[j]?) ∧ RelL (g0 W) vs cs ∧ Ones cs ∧ HasTy e vs),
    ∃ (L : List (List V)) (us : List Value), L.length = len ∧ (∀ c ∈ L, c.length = sz ∧ HasTy e c) ∧ RelL (g0 W) L.flatten us ∧ Ones us ∧ us.length = len * sz ∧ ∀ j, j < len * sz → W.cell? ⟨b, p + j, none⟩ = us[j]?
  | 0, _ => ⟨[], [], rfl, fun _ h => (by cases h), rfl, fun _ h => (by cases h), by simp, fun j h => by omega⟩
  | len + 1, K => by
    obtain ⟨L, us, h1, h2, h3, h4, h5, h6⟩ := rows_of len fun i hi => K i (by omega)
    obtain ⟨cs, vs, k1, k2, k3, k4, k5⟩ := K len (by omega)
    refine ⟨L ++ [vs], us ++ cs, by simp [h1], fun c hc => ?_, ?_, h4.append k4, by rw [List.length_append, h5, k1, Nat.add_mul, Nat.one_mul], fun j hj => ?_⟩
    · rcases List.mem_append.1 hc with hc | hc
      · exact h2 c hc
      · simp at hc; subst hc; exact ⟨by rw [k3.len, k1], k5⟩
    · rw [List.flatten_append]
      simp only [List.flatten_cons, List.flatten_nil, List.append_nil]
      exact h3.append k3
    · rcases Nat.lt_or_ge j (len * sz) with h | h
      · rw [List.getElem?_append_left (by omega)]
        exact h6 j h
      · rw [List.getElem?_append_right (by omega), h5]
        rw [Nat.add_mul, Nat.one_mul] at hj
        rw [← k2 (j - len * sz) (by omega)]
        congr 2; omega

mutual
theorem open_ty : ∀ (ty : Ty) {t : TypeId} {fuel : Nat} {cs : List Value} {x : DataW H × List MemPlace}, tyIs P ty t = true → DataW.trod enc P W 0 (fun _ => true) true fuel t cs = some x → (∀ n ∈ x.1.weights P t, n ≤ reachBytes) → ∃ vs, RelL (g0 W) vs cs ∧ Ones cs ∧ HasTy ty vs
  | .bool, t, fuel, cs, x, h, hx, hw => by
    simp only [tyIs] at h
    split at h <;> (try (cases h; done))
    rename_i ht
    obtain ⟨b, rfl, _⟩ := DataW.trod_bool ht hx
    exact ⟨[.bool b], ⟨_, _, rfl, rfl, rfl⟩, fun u hu => by simp at hu; subst hu; rfl, b, rfl⟩
  | .int k, t, fuel, cs, x, h, hx, hw => by
    simp only [tyIs] at h
    split at h <;> (try (cases h; done))
    rename_i k' ht
    have h := of_decide_eq_true h; subst h
    obtain ⟨n, rfl, _, hwf⟩ := DataW.trod_int ht hx
    refine ⟨[.int k n], ⟨_, _, rfl, rfl, rfl⟩, fun u hu => by simp at hu; subst hu; rfl, n, rfl, ?_⟩
    simpa [Lit.wf] using hwf
  | .str, t, fuel, cs, x, h, hx, hw => by
    simp only [tyIs] at h
    split at h <;> (try (cases h; done))
    rename_i ht
    obtain ⟨s, rfl, rfl, _⟩ := DataW.trod_string ht hx
    have hs : s.size ≤ reachBytes := by simpa [DataW.weights] using hw
    exact ⟨[.str s], ⟨_, _, rfl, rfl, rfl⟩, fun u hu => by simp at hu; subst hu; rfl, s, rfl, hs⟩
  | .slice sz bytes e, t, fuel, cs, x, h, hx, hw => by
    simp only [tyIs] at h
    split at h <;> (try (cases h; done))
    rename_i e' ht
    simp only [Bool.and_eq_true, decide_eq_true_eq] at h
    obtain ⟨⟨⟨hsz, hby⟩, h0⟩, he⟩ := h
    rcases DataW.trod_slice ht hx with ⟨rfl, _⟩ | ⟨a, len, cap, elems, rest, n, _, rfl, rfl, _, hlc, hm, hel, hat, hrest, _⟩
    · exact ⟨[.sl [] 0 sz .nil], ⟨_, _, rfl, ⟨by simp, .inl ⟨rfl, rfl, rfl, rfl⟩⟩, rfl⟩, fun u hu => by simp at hu; subst hu; rfl, [], .nil, rfl, .inl ⟨rfl, rfl⟩, by simp, fun _ hc => by cases hc⟩
    · simp only [DataW.weights, ht] at hw
      have hcap : len * bytes ≤ reachBytes := by
        have := hw _ List.mem_cons_self
        rw [List.length_map, List.length_map, hel, hby] at this
        exact Nat.le_trans (Nat.mul_le_mul_right _ (by omega)) this
      have hone : Ones [Value.slice (some a) len cap] := fun u hu => by simp at hu; subst hu; rfl
      rcases Nat.eq_zero_or_pos cap with hc | hc
      · subst hc
        obtain rfl : len = 0 := by omega
        exact ⟨[.sl [] 0 sz .no], ⟨_, _, rfl, ⟨by simp, .inr (.inr ⟨.inl rfl, rfl, rfl, a, rfl⟩)⟩, rfl⟩, hone, [], .no, rfl, .inr rfl, by simp, fun _ hc => by cases hc⟩
      · have hspot : a.spot = none := by
          have hall : ∃ y, (W.cells? 0 (a.add (0 * P.cellsOf e')) (P.cellsOf e')).bind (DataW.trod enc P W 0 (fun _ => true) true n e') = some y := by
            rcases Nat.eq_zero_or_pos len with hl | hl
            · have := (hrest rfl).2 0 (by omega)
              rw [hl] at this
              rw [this]
              exact ⟨_, List.getElem?_eq_getElem (by have := (hrest rfl).1; omega)⟩
            · rw [hat 0 hl]
              exact ⟨_, List.getElem?_eq_getElem (by omega)⟩
          obtain ⟨y, hy⟩ := hall
          obtain ⟨cs', h1, _⟩ := Option.bind_eq_some_iff.1 hy
          obtain ⟨h2, h3⟩ := cells_read h1
          have h4 := h3 0 (by omega)
          have h5 : cs'[0]? = some (cs'[0]'(by omega)) := List.getElem?_eq_getElem _
          rw [h5] at h4
          simp only [Nat.zero_mul, Addr.add, if_true] at h4
          unfold World.cell? at h4
          split at h4
          · split at h4
            · cases h4
            · rename_i hs; simpa using hs
          · cases h4
        obtain ⟨b, p, sp⟩ := a
        simp only at hspot; subst hspot
        obtain ⟨L, us, h1, h2, h3, h4, h5, h6⟩ := rows_of (W := W) (sz := sz) (e := e) (b := b) (p := p) len fun i hi => by
          have := hat i hi
          rw [List.getElem?_eq_getElem (by omega)] at this
          obtain ⟨cs', k1, k2⟩ := Option.bind_eq_some_iff.1 this
          obtain ⟨k3, k4⟩ := cells_read k1
          obtain ⟨vs, k5, k6, k7⟩ := open_ty e he k2 fun m hm => hw m (List.mem_cons_of_mem _ (List.mem_append_left _ (weights_all (List.mem_map.2 ⟨_, List.getElem_mem _, rfl⟩) m hm)))
          refine ⟨cs', vs, by omega, fun j hj => ?_, k5, k6, k7⟩
          rw [← k4 j (by omega), add_at, add_at, hsz]
        refine ⟨[.sl L.flatten len sz .no], ⟨_, _, rfl, ⟨by rw [h3.len, h5], .inr (.inl ⟨(by intro hh; cases hh), b, p, cap, us, rfl, hlc, h3, h4, fun j v hj => ?_, fun hh => (by cases hh), fun k hk => (by cases hk)⟩)⟩, rfl⟩, hone, L, .no, by rw [h1], .inr rfl, by rw [h1]; exact hcap, h2⟩
        show W.cell? ⟨b, p + j, none⟩ = some v
        rw [h6 j (by have := (List.getElem?_eq_some_iff.1 hj).1; omega)]; exact hj
  | .fin, t, fuel, cs, x, h, hx, hw => by simp [tyIs] at h
  | .field s a r, t, fuel, cs, x, h, hx, hw => by
    simp only [tyIs] at h
    split at h <;> (try (cases h; done))
    rename_i fs ht
    obtain ⟨xs, n, _, rfl, hl, hn, hat⟩ := DataW.trod_struct ht hx
    simp only [DataW.weights, ht] at hw
    have h : fieldsIs P (.field s a r) fs.toList 0 (P.cellsOf t) = true := by
      split at h
      · rename_i f fr hfs
        rw [hfs]
        simpa only [fieldsIs] using h
      · cases h
    obtain ⟨vs, h1, h2, h3⟩ := open_fields (.field s a r) (fs := fs.toList) (off := 0) (tot := P.cellsOf t) (cs := cs) (n := n) h hl fun f hf => by
      obtain ⟨i, hi⟩ := List.mem_iff_getElem?.1 hf
      have hi' : i < fs.size := by have := (List.getElem?_eq_some_iff.1 hi).1; simpa using this
      have := hat i f (by simpa using hi)
      rw [List.getElem?_eq_getElem (by omega)] at this
      refine ⟨_, this, fun m hm => hw m (DataW.weights_mem_each (j := i) (by simp [hi]) (by simp [List.getElem?_eq_getElem (show i < xs.length by omega)]) m hm)⟩
    exact ⟨vs, by simpa using h1, by simpa using h2, h3⟩
theorem open_fields : ∀ (ty : Ty) {fs : List Field} {off tot n : Nat} {cs : List Value}, fieldsIs P ty fs off tot = true → cs.length = tot →
    (∀ f ∈ fs, ∃ x, DataW.trod enc P W 0 (fun _ => true) true n f.type ((cs.drop f.offset).take (P.cellsOf f.type)) = some x ∧ ∀ m ∈ x.1.weights P f.type, m ≤ reachBytes) → ∃ vs, RelL (g0 W) vs (cs.drop off) ∧ Ones (cs.drop off) ∧ HasTy ty vs
  | .fin, [], off, tot, n, cs, h, hl, _ => by
    simp only [fieldsIs, decide_eq_true_eq] at h
    have : cs.drop off = [] := List.drop_of_length_le (by omega)
    rw [this]
    exact ⟨[], rfl, fun _ h => (by cases h), rfl⟩
  | .field s a r, f :: fs, off, tot, n, cs, h, hl, hf => by
    simp only [fieldsIs, Bool.and_eq_true, decide_eq_true_eq] at h
    obtain ⟨⟨⟨⟨h1, h2⟩, h3⟩, h4⟩, h5⟩ := h
    obtain ⟨x, hx, hw⟩ := hf f (by simp)
    rw [h1, h2] at hx
    obtain ⟨vs, k1, k2, k3⟩ := open_ty a h4 hx hw
    obtain ⟨ws, l1, l2, l3⟩ := open_fields r (cs := cs) h5 hl fun f' hf' => hf f' (by simp [hf'])
    have e : cs.drop off = (cs.drop off).take s ++ cs.drop (off + s) := by
      rw [← List.drop_drop, List.take_append_drop]
    rw [e]
    exact ⟨vs ++ ws, k1.append l1, k2.append l2, vs, ws, rfl, by rw [k1.len, List.length_take, List.length_drop]; omega, k3, l3⟩
  | .fin, _ :: _, _, _, _, _, h, _, _ => by simp [fieldsIs] at h
  | .field .., [], _, _, _, _, h, _, _ => by simp [fieldsIs] at h
  | .bool, _, _, _, _, _, h, _, _ => by simp [fieldsIs] at h
  | .int _, _, _, _, _, _, h, _, _ => by simp [fieldsIs] at h
  | .str, _, _, _, _, _, h, _, _ => by simp [fieldsIs] at h
  | .slice .., _, _, _, _, _, h, _, _ => by simp [fieldsIs] at h
end
end

section
variable {H : Type} {enc : TypeId × Value → H} {P : Program} {W W' : World}

def isField : Ty → Bool
  | .field .. => true
  | _ => false
/-- An argument as a value. -/
def ArgTy (ty : Ty) (v : V) : Prop := if isField ty = true then ∃ cs, v = .agg cs ∧ HasTy ty cs else HasTy ty [v]

theorem open_arg {ty : Ty} {t : TypeId} {u : Value} {d : DataW H} {ps : List MemPlace} {base : Nat} (h : tyIs P ty t = true) (hok : Value.okWide P W .any base t u) (hd : DataW.Trod enc P W 0 (fun _ => true) true t u d ps)
    (hw : ∀ n ∈ d.weights P t, n ≤ reachBytes) : ∃ v, RelV (g0 W) v u ∧ ArgTy ty v := by
  obtain ⟨fuel, hd⟩ := hd
  obtain ⟨vs, h1, h2, h3⟩ := open_ty ty h hd hw
  cases hf : isField ty with
  | true =>
    refine ⟨.agg vs, ?_, by unfold ArgTy; rw [if_pos hf]; exact ⟨vs, rfl, h3⟩⟩
    cases ty <;> (try (cases hf; done))
    simp only [tyIs] at h
    split at h <;> (try (cases h; done))
    rename_i fs ht
    unfold Value.okWide at hok
    rw [ht] at hok
    obtain ⟨cs, rfl, _, _⟩ := hok
    exact ⟨cs.toList, by simp, by simpa [Value.cells] using h1, by simpa [Value.cells] using h2⟩
  | false =>
    have hns : u.cells = #[u] := by
      have hnagg : ∀ cs, u ≠ .agg cs := fun cs e => by
        subst e
        cases ty <;> (try (cases hf; done)) <;> simp only [tyIs] at h <;> (try (cases h; done)) <;> split at h <;> (try (cases h; done)) <;> rename_i ht <;> unfold Value.okWide at hok <;> rw [ht] at hok <;> simp [Cell.okWide, ht, Cell.ok] at hok
      cases u <;> first | rfl | exact absurd rfl (hnagg _)
    rw [hns] at h1 h2
    obtain ⟨v, hv⟩ : ∃ v, vs = [v] := by
      have := h1.len
      match vs, this with
      | [v], _ => exact ⟨v, rfl⟩
    subst hv
    obtain ⟨u', r, e, h4, h5⟩ := h1
    injection e with e1 e2
    subst e1
    exact ⟨v, h4, by unfold ArgTy; rw [if_neg (by rw [hf]; simp)]; exact h3⟩

theorem args_stay (hl : laidOutB P = true) (hb : Below W.heap.size W W') : ∀ {ts : List TypeId} {vs : List Value} {ds : List (DataW H)} {p : List MemPlace}, (∀ t ∈ ts, P.readableRec t = true ∧ t < P.types.size) → (∀ x ∈ p, x.block < W.heap.size) →
    DataW.TrodAll enc P W 0 (fun _ => true) true ts vs ds p → DataW.TrodAll enc P W' 0 (fun b => decide (b < W.heap.size)) true ts vs ds p
  | [], [], [], _, _, _, h => h
  | t :: ts, v :: vs, d :: ds, p, ht, hp, ⟨p1, p2, h1, h2, e⟩ => by
    subst e
    exact ⟨p1, p2, Below.trod hl (ht t (by simp)).1 (ht t (by simp)).2 h1 hb (fun x hx => hp x (by simp [hx])), args_stay hl hb (fun t' h' => ht t' (by simp [h'])) (fun x hx => hp x (by simp [hx])) h2, rfl⟩

/-- A law's end: it answered true, and wrote only what is its own. -/
theorem post_true {f : Func} {s : ChangeSpec} {apart fresh handsOn : Bool} {args : Array Value} {ds : List (DataW H)} {before : List MemPlace} {tb : TypeId} (hl : laidOutB P = true) (hr : f.resultTypes = #[tb]) (htb : P.underlying tb = some .bool)
    (hread0 : (f.params.toList.all fun t => P.readableRec t && decide (t < P.types.size)) = true) (hvars : s.vars = []) (hW : DataW.Whole enc P f.params.toList [] apart W args.toList ds [] before)
    (hfn : s.fn H ds = { results := [.lit (.bool true)], args := ds }) (hb : Below W.heap.size W W') : s.post enc P f apart fresh handsOn false W args (.bool true) W' := by
  have hread : ∀ t ∈ f.params.toList, P.readableRec t = true ∧ t < P.types.size := fun t ht => by
    have := List.all_eq_true.1 hread0 t ht
    simpa using this
  have hW' := hW
  obtain ⟨p, q, h1, h2, rfl, h3, h4⟩ := hW'
  obtain ⟨_, rfl⟩ := ChangeShapes.trodVars_none h2
  have hlt := hW.lt
  refine ⟨ds, [], p ++ [], [], p, [], by rw [hvars]; exact hW, ?_, ?_, ?_, World.keptBut_mono (fun x hx => ⟨hx, .inr (.inl (by simpa using hx))⟩) (hb.frame (· ∈ p ++ [])), fun h => by cases h⟩
  · rw [List.append_nil, hfn, hr]
    exact ChangeShapes.trodAll_mk1 ⟨1, by simp [DataW.trod, htb, Value.cells]⟩
  · rw [List.append_nil, hfn]
    exact args_stay hl hb hread (fun x hx => hlt x (by simp [hx])) h1
  · rw [List.append_nil, hfn, hvars]
    rfl

/-- What the value machine says of a law's run, in the model. -/
theorem law_calls {f : FuncId} {vs : List V} {us : List Value} (h : RSim P W f vs St.empty (fun e _ => e = .ret (.bool true))) (hr : RelL (g0 W) vs us) : Calls P f us.toArray W fun e W' => e = .returned (.bool true) ∧ Below W.heap.size W W' :=
  (h.2 (g0 W) W us (relW_start W) hr).mono fun e W' ⟨g', S', e', _, hW, he, hq⟩ => by
    subst hq
    cases e with
    | returned u =>
      have : u = .bool true := he
      exact ⟨by rw [this], hW.below⟩
    | panicked c => exact he.elim
    | outgrown => exact he.elim
end

theorem bytes_ty {v : V} (h : HasTy (.slice 1 1 (.int .u8)) [v]) : ∃ bs, IsBytes v bs ∧ bs.length ≤ reachBytes := by
  obtain ⟨L, t, e, ht, hl, hL⟩ := h
  injection e with e _
  subst e
  have key : ∀ L : List (List V), (∀ c ∈ L, c.length = 1 ∧ HasTy (.int .u8) c) → ∃ bs : List UInt8, L.flatten = bs.map u8V ∧ bs.length = L.length := by
    intro L
    induction L with
    | nil => intro _; exact ⟨[], rfl, rfl⟩
    | cons c L ih =>
      intro h
      obtain ⟨bs, h1, h2⟩ := ih fun c hc => h c (by simp [hc])
      obtain ⟨_, n, rfl, h3, h4⟩ := h c (by simp)
      refine ⟨UInt8.ofNat n.toNat :: bs, ?_, by simp [h2]⟩
      have h3 : 0 ≤ n := h3
      have h4 : n ≤ 255 := h4
      simp only [List.flatten_cons, h1, List.map_cons, u8V, List.cons_append, List.nil_append]
      congr 2
      simp
      omega
  obtain ⟨bs, h1, h2⟩ := key L hL
  refine ⟨bs, ⟨t, by rw [h1, h2], fun e => ?_⟩, by omega⟩
  subst e
  rcases ht with ⟨_, rfl⟩ | ht
  · exact List.eq_nil_of_length_eq_zero (by simpa using h2)
  · cases ht

theorem slice_ty {α : Type} {R : List V → α → Prop} {B : α → Prop} {e : Ty} {sz bytes : Nat} {v : V} (hR : ∀ c, HasTy e c → ∃ x, R c x ∧ B x) (h : HasTy (.slice sz bytes e) [v]) :
    ∃ l t, IsSlice R sz v l t ∧ (∀ x ∈ l, B x) ∧ l.length * bytes ≤ reachBytes := by
  obtain ⟨L, t, ev, ht, hl, hL⟩ := h
  injection ev with ev _
  subst ev
  have key : ∀ L : List (List V), (∀ c ∈ L, c.length = sz ∧ HasTy e c) → ∃ l : List α, l.length = L.length ∧ (∀ x ∈ l, B x) ∧ ∀ (j : Nat) (c : List V) (x : α), L[j]? = some c → l[j]? = some x → R c x := by
    intro L
    induction L with
    | nil => intro _; exact ⟨[], rfl, fun _ h => (by cases h), fun j c x h => by simp at h⟩
    | cons c L ih =>
      intro h
      obtain ⟨l, h1, h2, h3⟩ := ih fun c hc => h c (by simp [hc])
      obtain ⟨x, h4, h5⟩ := hR c (h c (by simp)).2
      refine ⟨x :: l, by simp [h1], fun y hy => ?_, fun j c' y hc hy => ?_⟩
      · rcases List.mem_cons.1 hy with rfl | hy
        · exact h5
        · exact h2 y hy
      · cases j with
        | zero => simp at hc hy; subst hc; subst hy; exact h4
        | succ j => exact h3 j c' y (by simpa using hc) (by simpa using hy)
  obtain ⟨l, h1, h2, h3⟩ := key L hL
  refine ⟨l, t, ⟨L, by rw [h1], fun e => ?_, fun c hc => (hL c hc).1, h1.symm, h3⟩, h2, by rw [h1]; exact hl⟩
  subst e
  rcases ht with ⟨_, rfl⟩ | ht
  · exact List.eq_nil_of_length_eq_zero (by simpa using h1)
  · cases ht
end Go.VM
