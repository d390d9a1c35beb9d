/-
  Parts: VmTop, VmFin, VmX, VmDfr.
-/
import Derived.Test.YthpiomallkidlaaGreatDoorJ03
import Derived.ProofKit
import Derived.SizedLaws
import Derived.Test.YthpiomallkidlaaGreatDoorRows
import Derived.Recover
set_option linter.unusedVariables false
set_option linter.unusedSimpArgs false
set_option maxRecDepth 20000
namespace Go.VM
open Go Go.RowKit
inductive Ty
 | bool | int (k : IntKind) | str | slice (sz bytes : Nat) (e : Ty) | fin | field (s : Nat) (a r : Ty)
def HasTy : Ty → List V → Prop
 | .bool, cs => ∃ b, cs = [.bool b]
 | .int k, cs => ∃ n, cs = [.int k n] ∧ k.min ≤ n ∧ n ≤ k.max
 | .str, cs => ∃ s, cs = [.str s] ∧ s.size ≤ reachBytes
 | .slice sz bytes e, cs => ∃ (L : List (List V)) (t : Tok), cs = [.sl L.flatten L.length sz t] ∧ (t = .nil ∧ L = [] ∨ t = .no) ∧ L.length * bytes ≤ reachBytes ∧ ∀ c ∈ L, c.length = sz ∧ HasTy e c
 | .fin, cs => cs = []
 | .field s a r, cs => ∃ x y, cs = x ++ y ∧ x.length = s ∧ HasTy a x ∧ HasTy r y
mutual
def tyIs (P : Program) : Ty → TypeId → Bool
 | .bool, t => match P.underlying t with | some .bool => true | _ => false
 | .int k, t => match P.underlying t with | some (.int k') => decide (k = k') | _ => false
 | .str, t => match P.underlying t with | some .string => true | _ => false
 | .slice sz bytes e, t => match P.underlying t with | some (.slice e') => decide (P.cellsOf e' = sz) && decide (P.bytesOf e' = bytes) && decide (sz ≠ 0) && tyIs P e e' | _ => false
 | .fin, _ => false
 | .field s a r, t => match P.underlying t with
  | some (.struct fs) => (match fs.toList with
   | f :: fr => decide (f.offset = 0) && decide (P.cellsOf f.type = s) && decide (0 + s ≤ P.cellsOf t) && tyIs P a f.type && fieldsIs P r fr (0 + s) (P.cellsOf t)
   | [] => false)
  | _ => false
def fieldsIs (P : Program) : Ty → List Field → Nat → Nat → Bool
 | .fin, [], off, tot => decide (off = tot)
 | .field s a r, f :: fs, off, tot => decide (f.offset = off) && decide (P.cellsOf f.type = s) && decide (off + s ≤ tot) && tyIs P a f.type && fieldsIs P r fs (off + s) tot
 | _, _, _, _ => false
end
def g0 (W : World) : G := { ice := fun b p => W.cell? ⟨b, p, none⟩, loc := fun _ => (0, 0), n := 0, bs := fun _ => 0, nb := W.heap.size }
theorem relW_start (W : World) : RelW W (g0 W) St.empty W := by
 refine ⟨Below.refl _ _, rfl, rfl, fun _ _ _ h => h, fun i x h => ?_, fun i j x y h => ?_⟩
 ·cases h
 ·cases h
section
variable {H : Type} {enc : TypeId × Value → H} {P : Program} {W : World}
theorem mapM_some {α β : Type} {f : α → Option β} : ∀ {l : List α} {r : List β}, l.mapM f = some r → r.length = l.length ∧ ∀ (i : Nat) (a : α), l[i]? = some a → f a = r[i]?
 | [], r, h => by simp at h; subst h; exact ⟨rfl, fun i a h => by simp at h⟩
 | a :: l, r, h => by
  rw [List.mapM_cons] at h
  obtain ⟨b, hb, h⟩ := Option.bind_eq_some_iff.1 h
  obtain ⟨r', hr, h⟩ := Option.bind_eq_some_iff.1 h
  injection h with h; subst h
  obtain ⟨h1, h2⟩ := mapM_some hr
  refine ⟨by simp [h1], fun i x hx => ?_⟩
  cases i with
  | zero => simp at hx; subst hx; simpa using hb
  | succ i => simpa using h2 i x (by simpa using hx)
theorem cells_read {base : Nat} {a : Addr} {n : Nat} {cs : List Value} (h : W.cells? base a n = some cs) : cs.length = n ∧ ∀ i, i < n → W.cell? (a.add i) = cs[i]? := by
 unfold World.cells? at h
 split at h
 ·obtain ⟨h1, h2⟩ := mapM_some h
  exact ⟨by simpa using h1, fun i hi => h2 i i (by simp [hi])⟩
 ·cases h
theorem weights_all {e : TypeId} : ∀ {l : List (DataW H)} {d : DataW H}, d ∈ l → ∀ m ∈ d.weights P e, m ∈ DataW.weightsAll P e l
 | d0 :: l, d, h, m, hm => by
  simp only [DataW.weightsAll, List.mem_append]
  rcases List.mem_cons.1 h with rfl | h
  ·exact .inl hm
  ·exact .inr (weights_all h m hm)
theorem rows_of {sz : Nat} {e : Ty} {b p : Nat} : ∀ (len : Nat) (K : ∀ i, i < len → ∃ cs vs, cs.length = sz ∧ (∀ j, j < sz → W.cell? ⟨b, p + i * sz + j, none⟩ = cs[j]?) ∧ RelL (g0 W) vs cs ∧ Ones cs ∧ HasTy e vs),
  ∃ (L : List (List V)) (us : List Value), L.length = len ∧ (∀ c ∈ L, c.length = sz ∧ HasTy e c) ∧ RelL (g0 W) L.flatten us ∧ Ones us ∧ us.length = len * sz ∧ ∀ j, j < len * sz → W.cell? ⟨b, p + j, none⟩ = us[j]?
 | 0, _ => ⟨[], [], rfl, fun _ h => (by cases h), rfl, fun _ h => (by cases h), by simp, fun j h => by omega⟩
 | len + 1, K => by
  obtain ⟨L, us, h1, h2, h3, h4, h5, h6⟩ := rows_of len fun i hi => K i (by omega)
  obtain ⟨cs, vs, k1, k2, k3, k4, k5⟩ := K len (by omega)
  refine ⟨L ++ [vs], us ++ cs, by simp [h1], fun c hc => ?_, ?_, h4.append k4, by rw [List.length_append, h5, k1, Nat.add_mul, Nat.one_mul], fun j hj => ?_⟩
  ·rcases List.mem_append.1 hc with hc | hc
   ·exact h2 c hc
   ·simp at hc; subst hc; exact ⟨by rw [k3.len, k1], k5⟩
  ·rw [List.flatten_append]
   simp only [List.flatten_cons, List.flatten_nil, List.append_nil]
   exact h3.append k3
  ·rcases Nat.lt_or_ge j (len * sz) with h | h
   ·rw [List.getElem?_append_left (by omega)]
    exact h6 j h
   ·rw [List.getElem?_append_right (by omega), h5]
    rw [Nat.add_mul, Nat.one_mul] at hj
    rw [← k2 (j - len * sz) (by omega)]
    congr 2; omega
mutual
theorem open_ty : ∀ (ty : Ty) {t : TypeId} {fuel : Nat} {cs : List Value} {x : DataW H × List MemPlace}, tyIs P ty t = true → DataW.trod enc P W 0 (fun _ => true) true fuel t cs = some x → (∀ n ∈ x.1.weights P t, n ≤ reachBytes) → ∃ vs, RelL (g0 W) vs cs ∧ Ones cs ∧ HasTy ty vs
 | .bool, t, fuel, cs, x, h, hx, hw => by
  simp only [tyIs] at h
  split at h <;> (try (cases h; done))
  rename_i ht
  obtain ⟨b, rfl, _⟩ := DataW.trod_bool ht hx
  exact ⟨[.bool b], ⟨_, _, rfl, rfl, rfl⟩, fun u hu => by simp at hu; subst hu; rfl, b, rfl⟩
 | .int k, t, fuel, cs, x, h, hx, hw => by
  simp only [tyIs] at h
  split at h <;> (try (cases h; done))
  rename_i k' ht
  have h := of_decide_eq_true h; subst h
  obtain ⟨n, rfl, _, hwf⟩ := DataW.trod_int ht hx
  refine ⟨[.int k n], ⟨_, _, rfl, rfl, rfl⟩, fun u hu => by simp at hu; subst hu; rfl, n, rfl, ?_⟩
  simpa [Lit.wf] using hwf
 | .str, t, fuel, cs, x, h, hx, hw => by
  simp only [tyIs] at h
  split at h <;> (try (cases h; done))
  rename_i ht
  obtain ⟨s, rfl, rfl, _⟩ := DataW.trod_string ht hx
  have hs : s.size ≤ reachBytes := by simpa [DataW.weights] using hw
  exact ⟨[.str s], ⟨_, _, rfl, rfl, rfl⟩, fun u hu => by simp at hu; subst hu; rfl, s, rfl, hs⟩
 | .slice sz bytes e, t, fuel, cs, x, h, hx, hw => by
  simp only [tyIs] at h
  split at h <;> (try (cases h; done))
  rename_i e' ht
  simp only [Bool.and_eq_true, decide_eq_true_eq] at h
  obtain ⟨⟨⟨hsz, hby⟩, h0⟩, he⟩ := h
  rcases DataW.trod_slice ht hx with ⟨rfl, _⟩ | ⟨a, len, cap, elems, rest, n, _, rfl, rfl, _, hlc, hm, hel, hat, hrest, _⟩
  ·exact ⟨[.sl [] 0 sz .nil], ⟨_, _, rfl, ⟨by simp, .inl ⟨rfl, rfl, rfl, rfl⟩⟩, rfl⟩, fun u hu => by simp at hu; subst hu; rfl, [], .nil, rfl, .inl ⟨rfl, rfl⟩, by simp, fun _ hc => by cases hc⟩
  ·simp only [DataW.weights, ht] at hw
   have hcap : len * bytes ≤ reachBytes := by
    have := hw _ List.mem_cons_self
    rw [List.length_map, List.length_map, hel, hby] at this
    exact Nat.le_trans (Nat.mul_le_mul_right _ (by omega)) this
   have hone : Ones [Value.slice (some a) len cap] := fun u hu => by simp at hu; subst hu; rfl
   rcases Nat.eq_zero_or_pos cap with hc | hc
   ·subst hc
    obtain rfl : len = 0 := by omega
    exact ⟨[.sl [] 0 sz .no], ⟨_, _, rfl, ⟨by simp, .inr (.inr ⟨.inl rfl, rfl, rfl, a, rfl⟩)⟩, rfl⟩, hone, [], .no, rfl, .inr rfl, by simp, fun _ hc => by cases hc⟩
   ·have hspot : a.spot = none := by
     have hall : ∃ y, (W.cells? 0 (a.add (0 * P.cellsOf e')) (P.cellsOf e')).bind (DataW.trod enc P W 0 (fun _ => true) true n e') = some y := by
      rcases Nat.eq_zero_or_pos len with hl | hl
      ·have := (hrest rfl).2 0 (by omega)
       rw [hl] at this
       rw [this]
       exact ⟨_, List.getElem?_eq_getElem (by have := (hrest rfl).1; omega)⟩
      ·rw [hat 0 hl]
       exact ⟨_, List.getElem?_eq_getElem (by omega)⟩
     obtain ⟨y, hy⟩ := hall
     obtain ⟨cs', h1, _⟩ := Option.bind_eq_some_iff.1 hy
     obtain ⟨h2, h3⟩ := cells_read h1
     have h4 := h3 0 (by omega)
     have h5 : cs'[0]? = some (cs'[0]'(by omega)) := List.getElem?_eq_getElem _
     rw [h5] at h4
     simp only [Nat.zero_mul, Addr.add, if_true] at h4
     unfold World.cell? at h4
     split at h4
     ·split at h4
      ·cases h4
      ·rename_i hs; simpa using hs
     ·cases h4
    obtain ⟨b, p, sp⟩ := a
    simp only at hspot; subst hspot
    obtain ⟨L, us, h1, h2, h3, h4, h5, h6⟩ := rows_of (W := W) (sz := sz) (e := e) (b := b) (p := p) len fun i hi => by
     have := hat i hi
     rw [List.getElem?_eq_getElem (by omega)] at this
     obtain ⟨cs', k1, k2⟩ := Option.bind_eq_some_iff.1 this
     obtain ⟨k3, k4⟩ := cells_read k1
     obtain ⟨vs, k5, k6, k7⟩ := open_ty e he k2 fun m hm => hw m (List.mem_cons_of_mem _ (List.mem_append_left _ (weights_all (List.mem_map.2 ⟨_, List.getElem_mem _, rfl⟩) m hm)))
     refine ⟨cs', vs, by omega, fun j hj => ?_, k5, k6, k7⟩
     rw [← k4 j (by omega), add_at, add_at, hsz]
    refine ⟨[.sl L.flatten len sz .no], ⟨_, _, rfl, ⟨by rw [h3.len, h5], .inr (.inl ⟨(by intro hh; cases hh), b, p, cap, us, rfl, hlc, h3, h4, fun j v hj => ?_, fun hh => (by cases hh), fun k hk => (by cases hk)⟩)⟩, rfl⟩, hone, L, .no, by rw [h1], .inr rfl, by rw [h1]; exact hcap, h2⟩
    show W.cell? ⟨b, p + j, none⟩ = some v
    rw [h6 j (by have := (List.getElem?_eq_some_iff.1 hj).1; omega)]; exact hj
 | .fin, t, fuel, cs, x, h, hx, hw => by simp [tyIs] at h
 | .field s a r, t, fuel, cs, x, h, hx, hw => by
  simp only [tyIs] at h
  split at h <;> (try (cases h; done))
  rename_i fs ht
  obtain ⟨xs, n, _, rfl, hl, hn, hat⟩ := DataW.trod_struct ht hx
  simp only [DataW.weights, ht] at hw
  have h : fieldsIs P (.field s a r) fs.toList 0 (P.cellsOf t) = true := by
   split at h
   ·rename_i f fr hfs
    rw [hfs]
    simpa only [fieldsIs] using h
   ·cases h
  obtain ⟨vs, h1, h2, h3⟩ := open_fields (.field s a r) (fs := fs.toList) (off := 0) (tot := P.cellsOf t) (cs := cs) (n := n) h hl fun f hf => by
   obtain ⟨i, hi⟩ := List.mem_iff_getElem?.1 hf
   have hi' : i < fs.size := by have := (List.getElem?_eq_some_iff.1 hi).1; simpa using this
   have := hat i f (by simpa using hi)
   rw [List.getElem?_eq_getElem (by omega)] at this
   refine ⟨_, this, fun m hm => hw m (DataW.weights_mem_each (j := i) (by simp [hi]) (by simp [List.getElem?_eq_getElem (show i < xs.length by omega)]) m hm)⟩
  exact ⟨vs, by simpa using h1, by simpa using h2, h3⟩
theorem open_fields : ∀ (ty : Ty) {fs : List Field} {off tot n : Nat} {cs : List Value}, fieldsIs P ty fs off tot = true → cs.length = tot →
  (∀ f ∈ fs, ∃ x, DataW.trod enc P W 0 (fun _ => true) true n f.type ((cs.drop f.offset).take (P.cellsOf f.type)) = some x ∧ ∀ m ∈ x.1.weights P f.type, m ≤ reachBytes) → ∃ vs, RelL (g0 W) vs (cs.drop off) ∧ Ones (cs.drop off) ∧ HasTy ty vs
 | .fin, [], off, tot, n, cs, h, hl, _ => by
  simp only [fieldsIs, decide_eq_true_eq] at h
  have : cs.drop off = [] := List.drop_of_length_le (by omega)
  rw [this]
  exact ⟨[], rfl, fun _ h => (by cases h), rfl⟩
 | .field s a r, f :: fs, off, tot, n, cs, h, hl, hf => by
  simp only [fieldsIs, Bool.and_eq_true, decide_eq_true_eq] at h
  obtain ⟨⟨⟨⟨h1, h2⟩, h3⟩, h4⟩, h5⟩ := h
  obtain ⟨x, hx, hw⟩ := hf f (by simp)
  rw [h1, h2] at hx
  obtain ⟨vs, k1, k2, k3⟩ := open_ty a h4 hx hw
  obtain ⟨ws, l1, l2, l3⟩ := open_fields r (cs := cs) h5 hl fun f' hf' => hf f' (by simp [hf'])
  have e : cs.drop off = (cs.drop off).take s ++ cs.drop (off + s) := by
   rw [← List.drop_drop, List.take_append_drop]
  rw [e]
  exact ⟨vs ++ ws, k1.append l1, k2.append l2, vs, ws, rfl, by rw [k1.len, List.length_take, List.length_drop]; omega, k3, l3⟩
 | .fin, _ :: _, _, _, _, _, h, _, _ => by simp [fieldsIs] at h
 | .field .., [], _, _, _, _, h, _, _ => by simp [fieldsIs] at h
 | .bool, _, _, _, _, _, h, _, _ => by simp [fieldsIs] at h
 | .int _, _, _, _, _, _, h, _, _ => by simp [fieldsIs] at h
 | .str, _, _, _, _, _, h, _, _ => by simp [fieldsIs] at h
 | .slice .., _, _, _, _, _, h, _, _ => by simp [fieldsIs] at h
end
end
section
variable {H : Type} {enc : TypeId × Value → H} {P : Program} {W W' : World}
def isField : Ty → Bool
 | .field .. => true
 | _ => false
def ArgTy (ty : Ty) (v : V) : Prop := if isField ty = true then ∃ cs, v = .agg cs ∧ HasTy ty cs else HasTy ty [v]
theorem open_arg {ty : Ty} {t : TypeId} {u : Value} {d : DataW H} {ps : List MemPlace} {base : Nat} (h : tyIs P ty t = true) (hok : Value.okWide P W .any base t u) (hd : DataW.Trod enc P W 0 (fun _ => true) true t u d ps)
  (hw : ∀ n ∈ d.weights P t, n ≤ reachBytes) : ∃ v, RelV (g0 W) v u ∧ ArgTy ty v := by
 obtain ⟨fuel, hd⟩ := hd
 obtain ⟨vs, h1, h2, h3⟩ := open_ty ty h hd hw
 cases hf : isField ty with
 | true =>
  refine ⟨.agg vs, ?_, by unfold ArgTy; rw [if_pos hf]; exact ⟨vs, rfl, h3⟩⟩
  cases ty <;> (try (cases hf; done))
  simp only [tyIs] at h
  split at h <;> (try (cases h; done))
  rename_i fs ht
  unfold Value.okWide at hok
  rw [ht] at hok
  obtain ⟨cs, rfl, _, _⟩ := hok
  exact ⟨cs.toList, by simp, by simpa [Value.cells] using h1, by simpa [Value.cells] using h2⟩
 | false =>
  have hns : u.cells = #[u] := by
   have hnagg : ∀ cs, u ≠ .agg cs := fun cs e => by
    subst e
    cases ty <;> (try (cases hf; done)) <;> simp only [tyIs] at h <;> (try (cases h; done)) <;> split at h <;> (try (cases h; done)) <;> rename_i ht <;> unfold Value.okWide at hok <;> rw [ht] at hok <;> simp [Cell.okWide, ht, Cell.ok] at hok
   cases u <;> first | rfl | exact absurd rfl (hnagg _)
  rw [hns] at h1 h2
  obtain ⟨v, hv⟩ : ∃ v, vs = [v] := by
   have := h1.len
   match vs, this with
   | [v], _ => exact ⟨v, rfl⟩
  subst hv
  obtain ⟨u', r, e, h4, h5⟩ := h1
  injection e with e1 e2
  subst e1
  exact ⟨v, h4, by unfold ArgTy; rw [if_neg (by rw [hf]; simp)]; exact h3⟩
theorem args_stay (hl : laidOutB P = true) (hb : Below W.heap.size W W') : ∀ {ts : List TypeId} {vs : List Value} {ds : List (DataW H)} {p : List MemPlace}, (∀ t ∈ ts, P.readableRec t = true ∧ t < P.types.size) → (∀ x ∈ p, x.block < W.heap.size) →
  DataW.TrodAll enc P W 0 (fun _ => true) true ts vs ds p → DataW.TrodAll enc P W' 0 (fun b => decide (b < W.heap.size)) true ts vs ds p
 | [], [], [], _, _, _, h => h
 | t :: ts, v :: vs, d :: ds, p, ht, hp, ⟨p1, p2, h1, h2, e⟩ => by
  subst e
  exact ⟨p1, p2, Below.trod hl (ht t (by simp)).1 (ht t (by simp)).2 h1 hb (fun x hx => hp x (by simp [hx])), args_stay hl hb (fun t' h' => ht t' (by simp [h'])) (fun x hx => hp x (by simp [hx])) h2, rfl⟩
theorem post_true {f : Func} {s : ChangeSpec} {apart fresh handsOn : Bool} {args : Array Value} {ds : List (DataW H)} {before : List MemPlace} {tb : TypeId} (hl : laidOutB P = true) (hr : f.resultTypes = #[tb]) (htb : P.underlying tb = some .bool)
  (hread0 : (f.params.toList.all fun t => P.readableRec t && decide (t < P.types.size)) = true) (hvars : s.vars = []) (hW : DataW.Whole enc P f.params.toList [] apart W args.toList ds [] before)
  (hfn : s.fn H ds = { results := [.lit (.bool true)], args := ds }) (hb : Below W.heap.size W W') : s.post enc P f apart fresh handsOn false W args (.bool true) W' := by
 have hread : ∀ t ∈ f.params.toList, P.readableRec t = true ∧ t < P.types.size := fun t ht => by
  have := List.all_eq_true.1 hread0 t ht
  simpa using this
 have hW' := hW
 obtain ⟨p, q, h1, h2, rfl, h3, h4⟩ := hW'
 obtain ⟨_, rfl⟩ := ChangeShapes.trodVars_none h2
 have hlt := hW.lt
 refine ⟨ds, [], p ++ [], [], p, [], by rw [hvars]; exact hW, ?_, ?_, ?_, World.keptBut_mono (fun x hx => ⟨hx, .inr (.inl (by simpa using hx))⟩) (hb.frame (· ∈ p ++ [])), fun h => by cases h⟩
 ·rw [List.append_nil, hfn, hr]
  exact ChangeShapes.trodAll_mk1 ⟨1, by simp [DataW.trod, htb, Value.cells]⟩
 ·rw [List.append_nil, hfn]
  exact args_stay hl hb hread (fun x hx => hlt x (by simp [hx])) h1
 ·rw [List.append_nil, hfn, hvars]
  rfl
theorem law_calls {f : FuncId} {vs : List V} {us : List Value} (h : RSim P W f vs St.empty (fun e _ => e = .ret (.bool true))) (hr : RelL (g0 W) vs us) : Calls P f us.toArray W fun e W' => e = .returned (.bool true) ∧ Below W.heap.size W W' :=
 (h.2 (g0 W) W us (relW_start W) hr).mono fun e W' ⟨g', S', e', _, hW, he, hq⟩ => by
  subst hq
  cases e with
  | returned u =>
   have : u = .bool true := he
   exact ⟨by rw [this], hW.below⟩
  | panicked c => exact he.elim
  | outgrown => exact he.elim
end
end Go.VM
namespace Go.Proofs.YthpiomallkidlaaGreatDoor
open Go.VM Go.ChangeShapes Go.WideShapes Go.ChangeAt Go.RowKit
theorem Tryz.own : ownKnob Tryz.prog.godebug = none := by kernel_rfl
theorem Tryz.laidOut : laidOutB Tryz.prog = true := by kernel_rfl
theorem int_arg {k : IntKind} {v : V} (h : ArgTy (.int k) v) : ∃ n : Int, v = .int k n ∧ k.min ≤ n ∧ n ≤ k.max := by
 obtain ⟨n, e, hn⟩ : ∃ n, [v] = [.int k n] ∧ k.min ≤ n ∧ n ≤ k.max := h
 injection e with e _
 exact ⟨n, e, hn⟩
end Go.Proofs.YthpiomallkidlaaGreatDoor
namespace Go.VM
open Go
inductive Tr (α : Type) where
 | lf
 | nd (l : Tr α) (v : Option α) (r : Tr α)
def Tr.get {α : Type} : Tr α → Nat → Option α
 | .lf, _ => none
 | .nd l v r, i => cond (Nat.beq i 0) v (cond (Nat.beq (i % 2) 1) (l.get (i / 2)) (r.get (i / 2 - 1)))
def Tr.put {α : Type} (v : Option α) : Nat → Tr α → Nat → Tr α
 | 0, t, _ => t
 | k + 1, .lf, i => cond (Nat.beq i 0) (.nd .lf v .lf) (cond (Nat.beq (i % 2) 1) (.nd (Tr.put v k .lf (i / 2)) none .lf) (.nd .lf none (Tr.put v k .lf (i / 2 - 1))))
 | k + 1, .nd l w r, i => cond (Nat.beq i 0) (.nd l v r) (cond (Nat.beq (i % 2) 1) (.nd (Tr.put v k l (i / 2)) w r) (.nd l w (Tr.put v k r (i / 2 - 1))))
theorem Tr.get_e {α : Type} (i : Nat) : (Tr.lf : Tr α).get i = none := rfl
theorem beq_no {i : Nat} (h : i ≠ 0) : Nat.beq i 0 = false := by
 cases hb : Nat.beq i 0
 ·rfl
 ·exact absurd (Nat.eq_of_beq_eq_true hb) h
theorem Tr.get_n {α : Type} (l : Tr α) (v : Option α) (r : Tr α) (i : Nat) : (Tr.nd l v r).get i = if i = 0 then v else if i % 2 = 1 then l.get (i / 2) else r.get (i / 2 - 1) := by
 show cond (Nat.beq i 0) v (cond (Nat.beq (i % 2) 1) (l.get (i / 2)) (r.get (i / 2 - 1))) = _
 by_cases h : i = 0
 ·subst h; rfl
 ·rw [if_neg h, beq_no h, cond_false]
  by_cases h2 : i % 2 = 1
  ·rw [if_pos h2, h2]; rfl
  ·rw [if_neg h2]
   have : i % 2 = 0 := by omega
   rw [this]; rfl
theorem Tr.put_e {α : Type} (v : Option α) (k i : Nat) : Tr.put v (k + 1) (Tr.lf : Tr α) i = Tr.put v (k + 1) (Tr.nd .lf none .lf) i := rfl
theorem Tr.put_n {α : Type} (v : Option α) (k : Nat) (l : Tr α) (w : Option α) (r : Tr α) (i : Nat) : Tr.put v (k + 1) (Tr.nd l w r) i = if i = 0 then Tr.nd l v r else if i % 2 = 1 then Tr.nd (Tr.put v k l (i / 2)) w r else Tr.nd l w (Tr.put v k r (i / 2 - 1)) := by
 show cond (Nat.beq i 0) (Tr.nd l v r) (cond (Nat.beq (i % 2) 1) (Tr.nd (Tr.put v k l (i / 2)) w r) (Tr.nd l w (Tr.put v k r (i / 2 - 1)))) = _
 by_cases h : i = 0
 ·subst h; rfl
 ·rw [if_neg h, beq_no h, cond_false]
  by_cases h2 : i % 2 = 1
  ·rw [if_pos h2, h2]; rfl
  ·rw [if_neg h2]
   have : i % 2 = 0 := by omega
   rw [this]; rfl
theorem Tr.get_put {α : Type} (v : Option α) : ∀ (k : Nat) (t : Tr α) (i j : Nat), i + 1 < 2 ^ k → (Tr.put v k t i).get j = if j = i then v else t.get j
 | 0, t, i, j, h => by simp at h
 | k + 1, .lf, i, j, h => by
  rw [Tr.put_e, get_put_n v k .lf none .lf i j h (fun t i j h => Tr.get_put v k t i j h)]
  rw [Tr.get_n, Tr.get_e, Tr.get_e, Tr.get_e]
  simp
 | k + 1, .nd l w r, i, j, h => get_put_n v k l w r i j h fun t i j h => Tr.get_put v k t i j h
where
 get_put_n {α : Type} (v : Option α) (k : Nat) (l : Tr α) (w : Option α) (r : Tr α) (i j : Nat) (h : i + 1 < 2 ^ (k + 1)) (ih : ∀ (t : Tr α) (i j : Nat), i + 1 < 2 ^ k → (Tr.put v k t i).get j = if j = i then v else t.get j) : (Tr.put v (k + 1) (Tr.nd l w r) i).get j = if j = i then v else (Tr.nd l w r).get j := by
  rw [Tr.put_n]
  rw [Nat.pow_succ] at h
  by_cases h0 : i = 0
  ·subst h0
   rw [if_pos rfl, Tr.get_n, Tr.get_n]
   by_cases hj : j = 0
   ·rw [if_pos hj, if_pos hj]
   ·rw [if_neg hj, if_neg hj, if_neg hj]
  ·rw [if_neg h0]
   by_cases h1 : i % 2 = 1
   ·rw [if_pos h1, Tr.get_n, Tr.get_n, ih _ _ _ (by omega)]
    by_cases hj : j = 0
    ·rw [if_pos hj, if_neg (by omega), if_pos hj]
    ·rw [if_neg hj]
     by_cases hj1 : j % 2 = 1
     ·rw [if_pos hj1]
      by_cases hji : j = i
      ·rw [if_pos hji, if_pos (by omega)]
      ·rw [if_neg hji, if_neg (by omega), if_neg hj, if_pos hj1]
     ·rw [if_neg hj1, if_neg (by omega), if_neg hj, if_neg hj1]
   ·rw [if_neg h1, Tr.get_n, Tr.get_n, ih _ _ _ (by omega)]
    by_cases hj : j = 0
    ·rw [if_pos hj, if_neg (by omega), if_pos hj]
    ·rw [if_neg hj]
     by_cases hj1 : j % 2 = 1
     ·rw [if_pos hj1, if_neg (by omega), if_neg hj, if_pos hj1]
     ·rw [if_neg hj1]
      by_cases hji : j = i
      ·rw [if_pos hji, if_pos (by omega)]
      ·rw [if_neg hji, if_neg (by omega), if_neg hj, if_neg hj1]
structure F1 (α β : Type) where
 f : α → β
structure N8 (α : Type) where
 a0 : α
 a1 : α
 a2 : α
 a3 : α
 a4 : α
 a5 : α
 a6 : α
 a7 : α
def N8.all {α : Type} (x : α) : N8 α := ⟨x, x, x, x, x, x, x, x⟩
def zSel {α : Type} (k : Nat) : F1 (N8 α) α := match k with
 | 0 => ⟨fun n => n.a0⟩
 | 1 => ⟨fun n => n.a1⟩
 | 2 => ⟨fun n => n.a2⟩
 | 3 => ⟨fun n => n.a3⟩
 | 4 => ⟨fun n => n.a4⟩
 | 5 => ⟨fun n => n.a5⟩
 | 6 => ⟨fun n => n.a6⟩
 | _ => ⟨fun n => n.a7⟩
def zUpd {α : Type} (k : Nat) : F1 (α → α) (N8 α → N8 α) := match k with
 | 0 => ⟨fun f n => N8.casesOn (motive := fun _ => (α → α) → N8 α) n (fun a0 a1 a2 a3 a4 a5 a6 a7 f => ⟨f a0, a1, a2, a3, a4, a5, a6, a7⟩) f⟩
 | 1 => ⟨fun f n => N8.casesOn (motive := fun _ => (α → α) → N8 α) n (fun a0 a1 a2 a3 a4 a5 a6 a7 f => ⟨a0, f a1, a2, a3, a4, a5, a6, a7⟩) f⟩
 | 2 => ⟨fun f n => N8.casesOn (motive := fun _ => (α → α) → N8 α) n (fun a0 a1 a2 a3 a4 a5 a6 a7 f => ⟨a0, a1, f a2, a3, a4, a5, a6, a7⟩) f⟩
 | 3 => ⟨fun f n => N8.casesOn (motive := fun _ => (α → α) → N8 α) n (fun a0 a1 a2 a3 a4 a5 a6 a7 f => ⟨a0, a1, a2, f a3, a4, a5, a6, a7⟩) f⟩
 | 4 => ⟨fun f n => N8.casesOn (motive := fun _ => (α → α) → N8 α) n (fun a0 a1 a2 a3 a4 a5 a6 a7 f => ⟨a0, a1, a2, a3, f a4, a5, a6, a7⟩) f⟩
 | 5 => ⟨fun f n => N8.casesOn (motive := fun _ => (α → α) → N8 α) n (fun a0 a1 a2 a3 a4 a5 a6 a7 f => ⟨a0, a1, a2, a3, a4, f a5, a6, a7⟩) f⟩
 | 6 => ⟨fun f n => N8.casesOn (motive := fun _ => (α → α) → N8 α) n (fun a0 a1 a2 a3 a4 a5 a6 a7 f => ⟨a0, a1, a2, a3, a4, a5, f a6, a7⟩) f⟩
 | _ => ⟨fun f n => N8.casesOn (motive := fun _ => (α → α) → N8 α) n (fun a0 a1 a2 a3 a4 a5 a6 a7 f => ⟨a0, a1, a2, a3, a4, a5, a6, f a7⟩) f⟩
theorem lt8 {k : Nat} (h : k < 8) : k = 0 ∨ k = 1 ∨ k = 2 ∨ k = 3 ∨ k = 4 ∨ k = 5 ∨ k = 6 ∨ k = 7 := by omega
theorem sel_upd {α : Type} {j k : Nat} (hj : j < 8) (hk : k < 8) (f : α → α) (n : N8 α) : (zSel j).f ((zUpd k).f f n) = if j = k then f ((zSel j).f n) else (zSel j).f n := by
 cases n
 rcases lt8 hj with rfl | rfl | rfl | rfl | rfl | rfl | rfl | rfl <;> rcases lt8 hk with rfl | rfl | rfl | rfl | rfl | rfl | rfl | rfl <;> rfl
theorem sel_all {α : Type} {j : Nat} (hj : j < 8) (x : α) : (zSel j).f (N8.all x) = x := by
 rcases lt8 hj with rfl | rfl | rfl | rfl | rfl | rfl | rfl | rfl <;> rfl
abbrev H5 := N8 (N8 (N8 (N8 (N8 (Option AObj)))))
def Hp : Type := H5
def Hp.nil : Hp := N8.all (N8.all (N8.all (N8.all (N8.all none))))
def h5get (t : H5) (i : Nat) : Option AObj := (zSel (Nat.mod i 8)).f ((zSel (Nat.mod (Nat.div i 8) 8)).f ((zSel (Nat.mod (Nat.div i 64) 8)).f ((zSel (Nat.mod (Nat.div i 512) 8)).f ((zSel (Nat.div i 4096)).f t))))
def h5put (v : Option AObj) (t : H5) (i : Nat) : H5 := (zUpd (Nat.div i 4096)).f ((zUpd (Nat.mod (Nat.div i 512) 8)).f ((zUpd (Nat.mod (Nat.div i 64) 8)).f ((zUpd (Nat.mod (Nat.div i 8) 8)).f ((zUpd (Nat.mod i 8)).f (fun _ => v))))) t
def Hp.get (t : Hp) (i : Nat) : Option AObj := cond (Nat.blt i 32768) (h5get t i) none
def Hp.put (v : Option AObj) (t : Hp) (i : Nat) : Hp := h5put v t i
def small (i : Nat) : Bool := Nat.blt i 32768
theorem small_lt' {i : Nat} (h : small i = true) : i < 32768 := by unfold small at h; rw [Nat.blt_eq] at h; exact h
theorem small_lt {i : Nat} (h : small i = true) : i + 1 < 2 ^ 40 := by
 have := small_lt' h
 have e2 : (2 : Nat) ^ 40 = 1099511627776 := by decide
 omega
theorem h5_get_put (v : Option AObj) (t : H5) (i j : Nat) (hi : i < 32768) (hj : j < 32768) : h5get (h5put v t i) j = if j = i then v else h5get t j := by
 show (zSel (j % 8)).f ((zSel (j / 8 % 8)).f ((zSel (j / 64 % 8)).f ((zSel (j / 512 % 8)).f ((zSel (j / 4096)).f ((zUpd (i / 4096)).f ((zUpd (i / 512 % 8)).f ((zUpd (i / 64 % 8)).f ((zUpd (i / 8 % 8)).f ((zUpd (i % 8)).f (fun _ => v))))) t))))) = if j = i then v else (zSel (j % 8)).f ((zSel (j / 8 % 8)).f ((zSel (j / 64 % 8)).f ((zSel (j / 512 % 8)).f ((zSel (j / 4096)).f t))))
 rw [sel_upd (by omega) (by omega)]
 by_cases h1 : j / 4096 = i / 4096
 ·rw [if_pos h1, sel_upd (by omega) (by omega)]
  by_cases h2 : j / 512 % 8 = i / 512 % 8
  ·rw [if_pos h2, sel_upd (by omega) (by omega)]
   by_cases h3 : j / 64 % 8 = i / 64 % 8
   ·rw [if_pos h3, sel_upd (by omega) (by omega)]
    by_cases h4 : j / 8 % 8 = i / 8 % 8
    ·rw [if_pos h4, sel_upd (by omega) (by omega)]
     by_cases h5 : j % 8 = i % 8
     ·rw [if_pos h5, if_pos (by omega)]
     ·rw [if_neg h5, if_neg (by omega)]
    ·rw [if_neg h4, if_neg (by rintro rfl; exact h4 rfl)]
   ·rw [if_neg h3, if_neg (by rintro rfl; exact h3 rfl)]
  ·rw [if_neg h2, if_neg (by rintro rfl; exact h2 rfl)]
 ·rw [if_neg h1, if_neg (by rintro rfl; exact h1 rfl)]
theorem Hp.get_put (v : Option AObj) (t : Hp) (i j : Nat) (hi : small i = true) : (t.put v i).get j = if j = i then v else t.get j := by
 have h1 := small_lt' hi
 unfold Hp.get
 cases hj : Nat.blt j 32768
 ·have : ¬ j = i := fun e => by rw [e] at hj; unfold small at hi; rw [hi] at hj; cases hj
  rw [if_neg this]; rfl
 ·exact h5_get_put v t i j h1 (by rw [Nat.blt_eq] at hj; exact hj)
structure CSt where
 hp : Hp
 n : Nat
def CSt.st (S : CSt) : St := ⟨fun i => S.hp.get i, S.n⟩
def CSt.add (S : CSt) (x : AObj) : CSt := ⟨S.hp.put (some x) S.n, Nat.succ S.n⟩
def CSt.set (S : CSt) (i : Nat) (x : AObj) : CSt := ⟨S.hp.put (some x) i, S.n⟩
def CSt.kill (S : CSt) (i : Nat) : CSt := ⟨S.hp.put none i, S.n⟩
theorem CSt.add_st {S : CSt} {x : AObj} (h : small S.n = true) : (S.add x).st = S.st.add x := by
 unfold CSt.add CSt.st St.add
 congr 1
 funext i
 exact Hp.get_put (some x) S.hp S.n i h
theorem CSt.set_st {S : CSt} {i : Nat} {x : AObj} (h : small i = true) : (S.set i x).st = S.st.set i x := by
 unfold CSt.set CSt.st St.set
 congr 1
 funext j
 exact Hp.get_put (some x) S.hp i j h
theorem CSt.kill_st {S : CSt} {i : Nat} (h : small i = true) : (S.kill i).st = S.st.kill i := by
 unfold CSt.kill CSt.st St.kill
 congr 1
 funext j
 exact Hp.get_put none S.hp i j h
def Tr.fr (t : Tr V) : Fr := fun i => (t.get i).getD (.tup [])
def addX (S : CSt) (v : V) (x : AObj) : Option (V × CSt) := cond (small S.n) (some (v, S.add x)) none
def setX (S : CSt) (i : Nat) (v : V) (x : AObj) : Option (V × CSt) := cond (small i) (some (v, S.set i x)) none
def grownX (S : CSt) (mu : Bool) (cs : List V) (n sz : Nat) : Option (V × CSt) :=
 cond mu (addX S (.msl S.n 0 n sz) (.cells cs)) (addX S (.sl cs n sz (.at S.n)) .tok)
def appendX (S : CSt) (sz bytes : Nat) (mu : Bool) (m : Nat) (xs : List V) : V → Option (V × CSt)
 | .sl cs n sz' t =>
  if (t ≠ .nil ∧ sz' ≠ sz) ∨ xs.length ≠ m * sz ∨ roomOk (n + m) bytes = false then none
  else match t with
   | .nil => if m = 0 then some (.sl cs n sz' .nil, S) else grownX S mu (cs ++ xs) (n + m) sz
   | .cap => if m = 0 then some (.sl cs n sz' .cap, S) else grownX S mu (cs ++ xs) (n + m) sz
   | .at k => if mu then none else match S.hp.get k with
    | some .tok => cond (small k) (grownX (S.kill k) false (cs ++ xs) (n + m) sz) none
    | _ => none
   | .no => if m = 0 then some (.sl cs n sz' .no, S) else none
 | .msl o off n sz' =>
  if sz' ≠ sz ∨ xs.length ≠ m * sz ∨ roomOk (n + m) bytes = false then none
  else match S.st.cells o with
   | some cs => if off + n * sz ≤ cs.length then cond (small o) (grownX (S.kill o) mu ((cs.drop off).take (n * sz) ++ xs) (n + m) sz) none else none
   | none => none
 | _ => none
def xE (i : EI) (fr : Fr) (S : CSt) : Option (V × CSt) :=
 match i with
 | .alloc zero => addX S (.ptr (some (S.n, 0))) (.cells zero)
 | .box x => cond ((x.ev fr).cells.all V.one) (addX S (.ptr (some (S.n, 0))) (.cells (x.ev fr).cells)) none
 | .buildSlice n sz how zero parts =>
  match fillV fr zero parts with
  | some cs => match how with
   | 0 => some (.sl cs n sz .cap, S)
   | 1 => addX S (.msl S.n 0 n sz) (.cells cs)
   | _ => addX S (.sl cs n sz (.at S.n)) .tok
  | none => none
 | .store sz a x =>
  match a.ev fr with
  | .ptr (some (i, off)) =>
   match S.st.cells i with
   | some cs => if (x.ev fr).cells.length = sz ∧ off + sz ≤ cs.length then cond ((x.ev fr).cells.all V.one) (setX S i (.tup []) (.cells (splice cs off (x.ev fr).cells))) none else none
   | none => none
  | _ => none
 | .append sz bytes mu s x =>
  match (x.ev fr).elems S.st sz with
  | some (m, xs) => appendX S sz bytes mu m xs (s.ev fr)
  | none => none
 | .copy sz d s =>
  match (s.ev fr).elems S.st sz, d.ev fr with
  | some (m, xs), .msl o off n sz' =>
   match S.st.cells o with
   | some cs => if sz' = sz ∧ off + n * sz ≤ cs.length then setX S o (.int .i64 ((min m n : Nat))) (.cells (splice cs off (xs.take (min m n * sz)))) else none
   | none => none
  | some (m, _), .sl _ n _ _ => if min m n = 0 then some (.int .i64 0, S) else none
  | _, _ => none
 | .makeSlice sz bytes mu zero len cap =>
  match (len.ev fr).idx, (cap.ev fr).idx with
  | some n, some c =>
   if n ≤ c ∧ roomOk c bytes = true then
    if mu then (if n = c then addX S (.msl S.n 0 n sz) (.cells ((List.replicate n zero).flatten)) else none)
    else if n = c then some (.sl ((List.replicate n zero).flatten) n sz .cap, S)
    else addX S (.sl ((List.replicate n zero).flatten) n sz (.at S.n)) .tok
   else none
  | _, _ => none
 | .makeMap => addX S (.map (some S.n)) (.map [] 0)
 | .mapSet kk m k v =>
  match m.ev fr with
  | .map (some r) => match S.hp.get r with
   | some (.map es c) => if (v.ev fr).one = true ∧ (k.ev fr).isKey kk = true then (match findE kk (k.ev fr) es 0 with
    | some (some (i, _)) => setX S r (.tup []) (.map (es.modify i fun e => (k.ev fr, v.ev fr, e.2.2)) c)
    | some none => setX S r (.tup []) (.map (es ++ [(k.ev fr, v.ev fr, c)]) (c + 1))
    | none => none) else none
   | _ => none
  | _ => none
 | .delete kk m k =>
  match m.ev fr with
  | .map none => if (k.ev fr).isKey kk = true then some (.tup [], S) else none
  | .map (some r) => match S.hp.get r with
   | some (.map es c) => if (k.ev fr).isKey kk = true then (match findE kk (k.ev fr) es 0 with
    | some (some (i, _)) => setX S r (.tup []) (.map (es.eraseIdx i) c)
    | some none => some (.tup [], S)
    | none => none) else none
   | _ => none
  | _ => none
 | .range x =>
  match x.ev fr with
  | .map none => addX S (.iter S.n) (.iter none 0 [] 0)
  | .map (some r) => match S.hp.get r with
   | some (.map _ c) => addX S (.iter S.n) (.iter (some r) c [] c)
   | _ => none
  | _ => none
 | .next it =>
  match it.ev fr with
  | .iter j => match S.hp.get j with
   | some (.iter none _ _ _) => some (.tup [.bool false], S)
   | some (.iter (some r) since seen last) => match S.hp.get r with
    | some (.map es c) => if last = since ∧ c = since ∧ (es.all fun e => decide (e.2.2 < since)) = true then (match es.filter fun e => !seen.contains e.2.2 with
     | [] => some (.tup [.bool false], S)
     | [e] => setX S j (.tup [.bool true, e.1, e.2.1]) (.iter (some r) since (seen ++ [e.2.2]) c)
     | _ => none) else none
    | _ => none
   | _ => none
  | _ => none
 | .strBytes x =>
  match x.ev fr with
  | .str s => addX S (.sl (s.data.toList.map fun b => .int .u8 b.toNat) s.size 1 (.at S.n)) .tok
  | _ => none
 | .bytesSame x =>
  match x.ev fr with
  | .sl cs n sz (.at k) => match S.hp.get k with
   | some .tok => some (.sl cs n sz (.at k), S)
   | _ => none
  | _ => none
 | .frz x =>
  match x.ev fr with
  | .msl o off n sz => match S.st.cells o with
   | some cs => if off + n * sz ≤ cs.length then cond (small o) (addX (S.kill o) (.sl ((cs.drop off).take (n * sz)) n sz (.at S.n)) .tok) none else none
   | none => none
  | .sl cs n sz t => some (.sl cs n sz t, S)
  | _ => none
 | .call .. => none
 | .callV .. => none
 | .panic _ => none
theorem addX_st {S S' : CSt} {v v' : V} {x : AObj} (h : addX S v x = some (v', S')) : v' = v ∧ S'.st = S.st.add x := by
 unfold addX at h
 cases hs : small S.n <;> rw [hs] at h
 ·cases h
 ·injection h with h; injection h with h1 h2
  subst h1; subst h2
  exact ⟨rfl, CSt.add_st hs⟩
theorem setX_st {S S' : CSt} {i : Nat} {v v' : V} {x : AObj} (h : setX S i v x = some (v', S')) : v' = v ∧ S'.st = S.st.set i x := by
 unfold setX at h
 cases hs : small i <;> rw [hs] at h
 ·cases h
 ·injection h with h; injection h with h1 h2
  subst h1; subst h2
  exact ⟨rfl, CSt.set_st hs⟩
theorem grownX_st {S S' : CSt} {mu : Bool} {cs : List V} {n sz : Nat} {v : V} (h : grownX S mu cs n sz = some (v, S')) : grown S.st mu cs n sz = (v, S'.st) := by
 unfold grownX at h
 unfold grown
 cases mu
 ·obtain ⟨h1, h2⟩ := addX_st h
  rw [h1, h2]; rfl
 ·obtain ⟨h1, h2⟩ := addX_st h
  rw [h1, h2]; rfl
theorem appendX_st {S S' : CSt} {sz bytes : Nat} {mu : Bool} {m : Nat} {xs : List V} {w v : V} (h : appendX S sz bytes mu m xs w = some (v, S')) : appendTo S.st sz bytes mu m xs w = some (v, S'.st) := by
 cases w <;> simp only [appendX] at h <;> try (cases h; done)
 case sl cs n sz' t =>
  simp only [appendTo]
  split at h
  ·cases h
  rename_i hc
  rw [if_neg hc]
  cases t with
  | nil =>
   simp only at h ⊢
   split at h
   ·rename_i hm
    injection h with h; injection h with h1 h2
    subst h1; subst h2
    rw [if_pos hm]
   ·rename_i hm
    rw [if_neg hm, grownX_st h]
  | cap =>
   simp only at h ⊢
   split at h
   ·rename_i hm
    injection h with h; injection h with h1 h2
    subst h1; subst h2
    rw [if_pos hm]
   ·rename_i hm
    rw [if_neg hm, grownX_st h]
  | «at» k =>
   simp only at h ⊢
   split at h
   ·cases h
   ·rename_i hmu
    rw [if_neg hmu]
    split at h
    ·rename_i hk
     have hk' : S.st.hp k = some .tok := hk
     rw [hk']
     cases hs : small k <;> rw [hs] at h <;> simp only [cond_true, cond_false] at h
     ·cases h
     ·have := grownX_st h
      rw [CSt.kill_st hs] at this
      simp only [this]
    ·cases h
  | no =>
   simp only at h ⊢
   split at h
   ·rename_i hm
    injection h with h; injection h with h1 h2
    subst h1; subst h2
    rw [if_pos hm]
   ·cases h
 case msl o off n sz' =>
  simp only [appendTo]
  split at h
  ·cases h
  rename_i hc
  rw [if_neg hc]
  split at h
  ·rename_i cs hcs
   rw [hcs]
   split at h
   ·rename_i hl
    cases hs : small o <;> rw [hs] at h <;> simp only [cond_true, cond_false] at h
    ·cases h
    ·have := grownX_st h
     rw [CSt.kill_st hs] at this
     simp only [Option.bind_some, if_pos hl, this]
   ·cases h
  ·cases h
theorem xE_sound {cl : Cl} {i : EI} {fr : Fr} {S S' : CSt} {v : V} {K Kp : V → St → Prop} (h : xE i fr S = some (v, S')) (hK : K v S'.st) : wE cl i fr S.st K Kp := by
 cases i <;> simp only [xE] at h <;> simp only [wE] <;> try (cases h; done)
 case alloc zero =>
  obtain ⟨h1, h2⟩ := addX_st h
  rw [h1, h2] at hK; exact hK
 case box x =>
  cases hb : (x.ev fr).cells.all V.one <;> rw [hb] at h
  ·cases h
  ·obtain ⟨h1, h2⟩ := addX_st h
   rw [h1, h2] at hK; exact ⟨rfl, hK⟩
 case buildSlice n sz how zero parts =>
  split at h
  ·rename_i cs hf
   rw [hf]
   match how with
   | 0 =>
    simp only at h ⊢
    injection h with h; injection h with h1 h2
    subst h1; subst h2; exact hK
   | 1 =>
    obtain ⟨h1, h2⟩ := addX_st h
    rw [h1, h2] at hK; exact hK
   | k + 2 =>
    obtain ⟨h1, h2⟩ := addX_st h
    rw [h1, h2] at hK; exact hK
  ·cases h
 case store sz a x =>
  split at h
  ·rename_i i off ha
   rw [ha]
   split at h
   ·rename_i cs hcs
    simp only [hcs]
    split at h
    ·rename_i hc
     cases hb : (x.ev fr).cells.all V.one <;> rw [hb] at h
     ·cases h
     ·obtain ⟨h1, h2⟩ := setX_st h
      rw [h1, h2] at hK
      exact ⟨hc.1, rfl, hc.2, hK⟩
    ·cases h
   ·cases h
  ·cases h
 case append sz bytes mu s x =>
  split at h
  ·rename_i m xs he
   rw [he]
   have := appendX_st h
   simp only [this]
   exact hK
  ·cases h
 case copy sz d s =>
  split at h
  ·rename_i m xs o off n sz' h1 h2
   rw [h1, h2]
   split at h
   ·rename_i cs hcs
    simp only [hcs]
    split at h
    ·rename_i hc
     obtain ⟨h1, h2⟩ := setX_st h
     rw [h1, h2] at hK
     exact ⟨hc.1, hc.2, hK⟩
    ·cases h
   ·cases h
  ·rename_i m xs cs n sz' t h1 h2
   rw [h1, h2]
   split at h
   ·rename_i hm
    injection h with h; injection h with h1 h2
    subst h1; subst h2; exact ⟨hm, hK⟩
   ·cases h
  ·cases h
 case makeSlice sz bytes mu zero len cap =>
  split at h
  ·rename_i n c h1 h2
   rw [h1, h2]
   simp only
   split at h
   ·rename_i hc
    rw [if_pos hc]
    split at h
    ·rename_i hmu
     rw [if_pos hmu]
     split at h
     ·rename_i hn
      obtain ⟨h1, h2⟩ := addX_st h
      rw [h1, h2] at hK; exact ⟨hn, hK⟩
     ·cases h
    ·rename_i hmu
     rw [if_neg hmu]
     split at h
     ·rename_i hn
      rw [if_pos hn]
      injection h with h; injection h with h1 h2
      subst h1; subst h2; exact hK
     ·rename_i hn
      rw [if_neg hn]
      obtain ⟨h1, h2⟩ := addX_st h
      rw [h1, h2] at hK; exact hK
   ·cases h
  ·cases h
 case makeMap =>
  obtain ⟨h1, h2⟩ := addX_st h
  rw [h1, h2] at hK; exact hK
 case mapSet kk m k v =>
  split at h
  ·rename_i r hm
   rw [hm]
   split at h
   ·rename_i es c hr
    have hr' : S.st.hp r = some (.map es c) := hr
    simp only [hr']
    split at h
    ·rename_i hc
     refine ⟨hc.1, hc.2, ?_⟩
     split at h
     ·rename_i i x hf
      simp only [hf]
      obtain ⟨h1, h2⟩ := setX_st h
      rw [h1, h2] at hK; exact hK
     ·rename_i hf
      simp only [hf]
      obtain ⟨h1, h2⟩ := setX_st h
      rw [h1, h2] at hK; exact hK
     ·cases h
    ·cases h
   ·cases h
  ·cases h
 case delete kk m k =>
  split at h
  ·rename_i hm
   rw [hm]
   split at h
   ·rename_i hc
    injection h with h; injection h with h1 h2
    subst h1; subst h2; exact ⟨hc, hK⟩
   ·cases h
  ·rename_i r hm
   rw [hm]
   split at h
   ·rename_i es c hr
    have hr' : S.st.hp r = some (.map es c) := hr
    simp only [hr']
    split at h
    ·rename_i hc
     refine ⟨hc, ?_⟩
     split at h
     ·rename_i i x hf
      simp only [hf]
      obtain ⟨h1, h2⟩ := setX_st h
      rw [h1, h2] at hK; exact hK
     ·rename_i hf
      simp only [hf]
      injection h with h; injection h with h1 h2
      subst h1; subst h2; exact hK
     ·cases h
    ·cases h
   ·cases h
  ·cases h
 case range x =>
  split at h
  ·rename_i hm
   rw [hm]
   obtain ⟨h1, h2⟩ := addX_st h
   rw [h1, h2] at hK; exact hK
  ·rename_i r hm
   rw [hm]
   split at h
   ·rename_i es c hr
    have hr' : S.st.hp r = some (.map es c) := hr
    simp only [hr']
    obtain ⟨h1, h2⟩ := addX_st h
    rw [h1, h2] at hK; exact hK
   ·cases h
  ·cases h
 case next it =>
  split at h
  ·rename_i j hm
   rw [hm]
   split at h
   ·rename_i a b c hj
    have hj' : S.st.hp j = _ := hj
    simp only [hj']
    injection h with h; injection h with h1 h2
    subst h1; subst h2; exact hK
   ·rename_i r since seen last hj
    have hj' : S.st.hp j = _ := hj
    simp only [hj']
    split at h
    ·rename_i es c hr
     have hr' : S.st.hp r = some (.map es c) := hr
     simp only [hr']
     split at h
     ·rename_i hc
      obtain ⟨c1, c2, c3⟩ := hc
      have c4 : ∀ e ∈ es, e.2.2 < since := fun e he => by
       have := List.all_eq_true.1 c3 e he
       exact of_decide_eq_true this
      refine ⟨c1, c2, c4, ?_⟩
      split at h
      ·rename_i hf
       injection h with h; injection h with h1 h2
       subst h1; subst h2
       refine ⟨fun _ => hK, fun e he hs => ?_⟩
       have : e ∈ es.filter fun e => !seen.contains e.2.2 := List.mem_filter.2 ⟨he, by rw [hs]; rfl⟩
       rw [hf] at this; cases this
      ·rename_i e hf
       obtain ⟨h1, h2⟩ := setX_st h
       rw [h1, h2] at hK
       have hm : e ∈ es.filter fun e => !seen.contains e.2.2 := by rw [hf]; simp
       obtain ⟨m1, m2⟩ := List.mem_filter.1 hm
       refine ⟨fun ha => ?_, fun e' he' hs' => ?_⟩
       ·have := List.all_eq_true.1 ha e m1
        rw [this] at m2; cases m2
       ·have : e' ∈ es.filter fun e => !seen.contains e.2.2 := List.mem_filter.2 ⟨he', by rw [hs']; rfl⟩
        rw [hf] at this
        rw [List.mem_singleton.1 this]; exact hK
      ·cases h
     ·cases h
    ·cases h
   ·cases h
  ·cases h
 case strBytes x =>
  split at h
  ·rename_i s hs
   rw [hs]
   obtain ⟨h1, h2⟩ := addX_st h
   rw [h1, h2] at hK; exact hK
  ·cases h
 case bytesSame x =>
  split at h
  ·rename_i cs n sz k hs
   rw [hs]
   split at h
   ·rename_i hk
    injection h with h; injection h with h1 h2
    subst h1; subst h2; exact ⟨hk, hK⟩
   ·cases h
  ·cases h
 case frz x =>
  split at h
  ·rename_i o off n sz hs
   rw [hs]
   split at h
   ·rename_i cs hcs
    simp only [hcs]
    split at h
    ·rename_i hl
     cases hsm : small o <;> rw [hsm] at h
     ·cases h
     ·obtain ⟨h1, h2⟩ := addX_st h
      rw [h1, h2, CSt.kill_st hsm] at hK
      exact ⟨hl, hK⟩
    ·cases h
   ·cases h
  ·rename_i cs n sz t hs
   rw [hs]
   injection h with h; injection h with h1 h2
   subst h1; subst h2; exact hK
  ·cases h
def V.same0 : V → V → Bool
 | .bool a, .bool b => a == b
 | .int k a, .int k' b => decide (k = k') && a == b
 | .str a, .str b => a.data.toList == b.data.toList
 | .ptr a, .ptr b => a == b
 | .map a, .map b => a == b
 | .iter a, .iter b => a == b
 | .msl a b c d, .msl a' b' c' d' => a == a' && b == b' && c == c' && d == d'
 | .nilFunc, .nilFunc => true
 | .nilIface, .nilIface => true
 | .sl [] n sz t, .sl [] n' sz' t' => n == n' && sz == sz' && decide (t = t')
 | .abs a, .abs b => decide (a = b)
 | _, _ => false
def all2 (f : V → V → Bool) : List V → List V → Bool
 | [], [] => true
 | a :: r, b :: s => f a b && all2 f r s
 | _, _ => false
def V.sameN : Nat → V → V → Bool
 | 0, a, b => V.same0 a b
 | m + 1, a, b => match a, b with
  | .sl cs n sz t, .sl cs' n' sz' t' => all2 (V.sameN m) cs cs' && (n == n' && sz == sz' && decide (t = t'))
  | .eptr cs, .eptr cs' => all2 (V.sameN m) cs cs'
  | .agg cs, .agg cs' => all2 (V.sameN m) cs cs'
  | .tup cs, .tup cs' => all2 (V.sameN m) cs cs'
  | .iface t v, .iface t' v' => decide (t = t') && V.sameN m v v'
  | a, b => V.same0 a b
def V.same (a b : V) : Bool := V.sameN 5 a b
theorem V.same0_eq {a b : V} (h : V.same0 a b = true) : a = b := by
 unfold V.same0 at h
 split at h <;> (try simp only [Bool.and_eq_true, beq_iff_eq, decide_eq_true_eq] at h)
 case h_3 a b =>
  have e := Array.ext' h
  cases a; cases b
  simp only at e
  subst e; rfl
 all_goals first
  | (cases h; done)
  | (subst h; rfl)
  | (obtain ⟨h1, h2⟩ := h; subst h1; subst h2; rfl)
  | (obtain ⟨⟨h1, h2⟩, h3⟩ := h; subst h1; subst h2; subst h3; rfl)
  | (obtain ⟨⟨⟨h1, h2⟩, h3⟩, h4⟩ := h; subst h1; subst h2; subst h3; subst h4; rfl)
  | rfl
theorem all2_eq {f : V → V → Bool} (hf : ∀ a b, f a b = true → a = b) : ∀ {l m : List V}, all2 f l m = true → l = m
 | [], [], _ => rfl
 | a :: r, b :: s, h => by
  unfold all2 at h
  rw [Bool.and_eq_true] at h
  rw [hf a b h.1, all2_eq hf h.2]
 | [], _ :: _, h => by cases h
 | _ :: _, [], h => by cases h
theorem V.sameN_eq : ∀ (n : Nat) (a b : V), V.sameN n a b = true → a = b
 | 0, a, b, h => V.same0_eq h
 | m + 1, a, b, h => by
  have ih := V.sameN_eq m
  unfold V.sameN at h
  split at h
  ·simp only [Bool.and_eq_true, beq_iff_eq, decide_eq_true_eq] at h
   obtain ⟨h0, ⟨h1, h2⟩, h3⟩ := h
   rw [all2_eq ih h0, h1, h2, h3]
  ·rw [all2_eq ih h]
  ·rw [all2_eq ih h]
  ·rw [all2_eq ih h]
  ·rw [Bool.and_eq_true, decide_eq_true_eq] at h
   rw [h.1, ih _ _ h.2]
  ·exact V.same0_eq h
theorem V.same_eq {a b : V} (h : V.same a b = true) : a = b := V.sameN_eq 5 a b h
abbrev KX := V → CSt → Bool
abbrev CallX := FuncId → List V → CSt → KX → Bool
def nextX (it : V) (S : CSt) (k : KX) : Bool :=
 match it with
 | .iter j => match S.hp.get j with
  | some (.iter none _ _ _) => k (.tup [.bool false]) S
  | some (.iter (some r) since seen last) => match S.hp.get r with
   | some (.map es c) => if last = since ∧ c = since ∧ (es.all fun e => decide (e.2.2 < since)) = true then (match es.filter fun e => !seen.contains e.2.2 with
    | [] => k (.tup [.bool false]) S
    | e :: l => (e :: l).all fun e => match setX S j (.tup [.bool true, e.1, e.2.1]) (.iter (some r) since (seen ++ [e.2.2]) c) with
     | some (v, S') => k v S'
     | none => false) else false
   | _ => false
  | _ => false
 | _ => false
theorem nextX_sound' {cl : Cl} {it : Arg} {fr : Fr} {S : CSt} {k : KX} {K Kp : V → St → Prop} (h : nextX (it.ev fr) S k = true) (hk : ∀ v S', k v S' = true → K v S'.st) : wE cl (.next it) fr S.st K Kp := by
 unfold nextX at h
 simp only [wE]
 split at h
 ·rename_i j hm
  rw [hm]
  split at h
  ·rename_i a b c hj
   have hj' : S.st.hp j = _ := hj
   simp only [hj']
   exact hk _ _ h
  ·rename_i r since seen last hj
   have hj' : S.st.hp j = _ := hj
   simp only [hj']
   split at h
   ·rename_i es c hr
    have hr' : S.st.hp r = some (.map es c) := hr
    simp only [hr']
    split at h
    ·rename_i hc
     obtain ⟨c1, c2, c3⟩ := hc
     have c4 : ∀ e ∈ es, e.2.2 < since := fun e he => by
      have := List.all_eq_true.1 c3 e he
      exact of_decide_eq_true this
     refine ⟨c1, c2, c4, ?_⟩
     split at h
     ·rename_i hf
      refine ⟨fun _ => hk _ _ h, fun e he hs => ?_⟩
      have : e ∈ es.filter fun e => !seen.contains e.2.2 := List.mem_filter.2 ⟨he, by rw [hs]; rfl⟩
      rw [hf] at this; cases this
     ·rename_i e l hf
      refine ⟨fun ha => ?_, fun e' he' hs' => ?_⟩
      ·have hm : e ∈ es.filter fun e => !seen.contains e.2.2 := by rw [hf]; simp
       obtain ⟨m1, m2⟩ := List.mem_filter.1 hm
       have := List.all_eq_true.1 ha e m1
       rw [this] at m2; cases m2
      ·have hm : e' ∈ es.filter fun e => !seen.contains e.2.2 := List.mem_filter.2 ⟨he', by rw [hs']; rfl⟩
       rw [hf] at hm
       have := List.all_eq_true.1 h e' hm
       split at this
       ·rename_i v S' hx
        obtain ⟨h1, h2⟩ := setX_st hx
        have := hk _ _ this
        rw [h1, h2] at this
        exact this
       ·cases this
    ·cases h
   ·cases h
  ·cases h
 ·cases h
def CallOk (cl : Cl) (call : CallX) : Prop := ∀ f args S k (Q : AEnd → St → Prop), call f args S k = true → (∀ v S', k v S' = true → Q (.ret v) S'.st) → cl f args S.st Q
inductive AX
 | normal
 | exit (id : Nat)
 | ret
def AX.out : AX → AExit
 | .normal => .normal
 | .exit i => .exit i
 | .ret => .ret
abbrev PrimX := FuncId → Option (List V → CSt → KX → Bool)
def PrimOk (P : Program) (w0 : World) (prim : PrimX) : Prop := ∀ f p, prim f = some p → ∀ args S k (Q : AEnd → St → Prop), p args S k = true → (∀ v S', k v S' = true → Q (.ret v) S'.st) → RSim P w0 f args S.st Q
end Go.VM
namespace Go.VM
open Go Go.RowKit
section
variable {P : Program} {w0 : World} {n : Nat}
def chkDo (n : Nat) (cf : FuncId) (o0 o1 : Oper) (items : List Item) : Bool := match o0.dst, o0.op, o0.guard, o1.dst, o1.op, o1.guard, items with
 | some d, .makeFunc (.func cf') pre caps, none, none, .defer ⟨.value (.tmp d'), dargs, _⟩, none, [.run ⟨some e, none, .f (.mkFunc cf2 [] caps')⟩] =>
  decide (dargs.size = 0) && (decide (d = d') && (decide (d = e) && (decide (cf = cf') && (decide (cf = cf2) && decide (d < n)))))
 | _, _, _, _, _, _, _ => false
def chkHere (P : Program) (n : Nat) (cf : FuncId) (c : Code) (d : Cd) : Bool := match c, d with
 | .region _ ops false, .reg [] items => match ops.toList with
  | [o0, o1] => chkPlain P n ops [o0] items && chkDo n cf o0 o1 items
  | _ => false
 | _, _ => false
def chkD (P : Program) (n : Nat) (cf : FuncId) : Code → Cd → Bool
 | .seq x y, .seq a b => (chkHere P n cf x a && chkCode P n y b) || (chkCode P n x a && chkD P n cf y b)
 | _, _ => false
def QRelD (cf : FuncId) (w0 : World) (n : Nat) (g : G) (Q : CPost) : Exit → Act → World → Prop := fun e a w =>
 QRel [] w0 n g Q e a w ∨ ∃ ws : Array Value, QRel [{ target := .fn (.func cf) ws, args := #[] }] w0 n g Q e a w
theorem sim_here (hm : P.follows .mixedOrders = true) {cf : FuncId} {c : Code} {d : Cd} (hc : chkHere P n cf c d = true) {g0 g : G} {fr : Fr} {S : St} {a : Act} {w : World} {K : Fr → St → Prop} {Q : CPost} (hl : g0.le g) (hW : RelW w0 g S w) (hF : RelF g n fr a.tmps) (hd : a.defers = [])
  (h : wCode (RSim P w0) d fr S (thenQ K Q)) {R : Exit → Act → World → Prop}
  (hR : ∀ ws g' fr' S' a' w', g0.le g' → RelW w0 g' S' w' → RelF g' n fr' a'.tmps → a'.defers = [{ target := .fn (.func cf) ws, args := #[] }] → K fr' S' → R .normal a' w') : c.wp P R a w := by
 unfold chkHere at hc
 split at hc <;> (try (cases hc; done))
 rename_i id ops items
 split at hc <;> (try (cases hc; done))
 rename_i o0 o1 hops
 rw [Bool.and_eq_true] at hc
 obtain ⟨h1, h2⟩ := hc
 unfold chkDo at h2
 split at h2 <;> (try (cases h2; done))
 rename_i d cf' pre caps d' dargs dts e cf2 caps' e0 e1 e2 e3 e4 e5
 simp only [Bool.and_eq_true, decide_eq_true_eq] at h2
 obtain ⟨hda, rfl, rfl, rfl, rfl, hdn⟩ := h2
 simp only [wCode, wItems, wItem, wanted, aF, thenQ, List.map_nil] at h
 refine wp_region_list ?_
 rw [hops]
 simp only [chkPlain, chkOp, Bool.and_eq_true] at h1
 obtain ⟨⟨⟨hdst, hg⟩, hi⟩, _⟩ := h1
 obtain ⟨u, hrun, hu⟩ := simFI (i := .mkFunc cf [] caps') hW hF hi (v := .func cf [] (caps'.map (Arg.ev fr))) rfl
 simp only [wpList]
 have hwant0 : Region.wanted o0 (yielded ops a.tmps) = true := by unfold Region.wanted; rw [e2]
 rw [if_pos hwant0]
 refine .inl ?_
 unfold Oper.wp
 rw [hrun]
 show wpList P ops R [o1] (a.put o0.dst u) w
 simp only [wpList]
 have hwant1 : Region.wanted o1 (yielded ops (a.put o0.dst u).tmps) = true := by unfold Region.wanted; rw [e5]
 rw [if_pos hwant1]
 refine .inl ?_
 obtain ⟨us, ws, rfl, hus, hws⟩ := hu
 obtain rfl : us = [] := hus
 have hF' : RelF g n (fr.put (some d) (.func cf [] (caps'.map (Arg.ev fr)))) (a.put o0.dst (.func (.func cf) #[] ws.toArray)).tmps := by
  rw [e0]
  exact hF.put (v := .func cf [] (caps'.map (Arg.ev fr))) ⟨[], ws, rfl, rfl, hws⟩
 have hval : (a.put o0.dst (.func (.func cf) #[] ws.toArray)).eval (.tmp d) = .func (.func cf) #[] ws.toArray := by
  have hsz : d < a.tmps.size := by rw [hF.1]; exact hdn
  rw [e0]
  simp [Act.put, Act.eval, hsz]
 unfold Oper.wp
 have hrun1 : (execOp (a.put o0.dst (.func (.func cf) #[] ws.toArray)).eval o1).run P w = .ok (.defer { target := .fn (.func cf) ws.toArray, args := #[] }) w := by
  have hda' : dargs = #[] := Array.eq_empty_of_size_eq_zero hda
  simp [execOp, e4, resolve, hval, Deferred.ofValue, hda']
 rw [hrun1, Oper.upon_defer]
 show R .normal _ w
 refine hR ws.toArray g _ S _ w hl hW ?_ ?_ h
 ·rw [e3]; exact hF'
 ·rw [e3]
  show _ :: (a.put o0.dst _).defers = _
  rw [put_defers, hd]
theorem sim_codeD (hm : P.follows .mixedOrders = true) {cf : FuncId} : ∀ {c : Code} {d : Cd}, chkD P n cf c d = true → ∀ {g0 g : G} {fr : Fr} {S : St} {a : Act} {w : World} {Q : CPost},
  g0.le g → RelW w0 g S w → RelF g n fr a.tmps → a.defers = [] → wCode (RSim P w0) d fr S Q → c.wp P (QRelD cf w0 n g0 Q) a w := by
 intro c
 induction c with
 | seq x y ihx ihy =>
  intro d hc g0 g fr S a w Q hl hW hF hd h
  cases d <;> try (simp only [chkD] at hc; cases hc; done)
  rename_i p q
  simp only [chkD, Bool.or_eq_true, Bool.and_eq_true] at hc
  simp only [wCode] at h
  rcases hc with ⟨h1, h2⟩ | ⟨h1, h2⟩
  ·refine wp_seq (sim_here hm h1 hl hW hF hd h fun ws g' fr' S' a' w' hl' hW' hF' hd' hk => ?_)
   exact wp_mono (sim_code hm h2 hl' hW' hF' hd' hk) fun e a'' w'' hq => .inr ⟨ws, hq⟩
  ·refine wp_seq (wp_mono (sim_code hm h1 hl hW hF hd h) fun e a' w' q => ?_)
   cases e with
   | normal =>
    obtain ⟨hd', g', fr', S', hl', hW', hF', hk⟩ := q
    exact ihy h2 hl' hW' hF' hd' hk
   | exit id => exact .inl q
   | goto l => exact .inl q
   | ret => exact .inl q
   | panic ch => exact .inl q
   | outgrown => exact .inl q
 | _ => intro d hc; cases d <;> (simp only [chkD] at hc; cases hc)
def Idle (P : Program) (cf : FuncId) : Prop := Enters P cf ∧ ∀ (args : Array Value) (w : World), CallsD P cf args .returning w fun e u' w' => (∃ v, e = .returned v) ∧ u' = .returning ∧ w' = w
def bodyN (fc : FnC) (Q : AEnd → St → Prop) : CPost
 | .normal, fr, S | .ret, fr, S => match readRes fr S fc.res with
  | some v => Q (.ret v) S
  | none => False
 | _, _, _ => False
def chkFnD (P : Program) (f cf : FuncId) (fc : FnC) : Bool := match P.funcs[f]? with
 | some fn => match fn.body with
  | some c => !(fn.name == "runtime.NumGoroutine") && decide (fn.ntmps = fc.ntmps) && chkRVs P fc.ntmps fn.results.toList fc.res && chkD P fc.ntmps cf c fc.body
  | none => false
 | none => false
theorem leave_of {cf : FuncId} (hi : Idle P cf) {fn : Func} {tmps : Array Value} {R : Ending → World → Prop} {D : List Deferred} {w : World} (hD : D = [] ∨ ∃ ws : Array Value, D = [{ target := .fn (.func cf) ws, args := #[] }])
  (h : ∃ v, (results fn tmps).run P w = .ok v w ∧ R (.returned v) w) : Leaves P fn tmps R D .returning w := by
 rcases hD with rfl | ⟨ws, rfl⟩
 ·exact h
 ·refine leaves_cons (f := cf) (args := #[] ++ ws) (by simp) ?_ ((hi.2 _ _).mono fun e u' w' ⟨⟨v, he⟩, hu, hw⟩ => ?_)
  ·show (callFunc cf (#[] ++ ws)).run P w = _
   exact callFunc_run hi.1 _ _
  ·subst he; subst hu; subst hw
   exact h
theorem RSim.codeD (hm : P.follows .mixedOrders = true) {f cf : FuncId} {fc : FnC} (hi : Idle P cf) (hc : chkFnD P f cf fc = true) {args : List V} {S : St} {Q : AEnd → St → Prop} (hn : args.length ≤ fc.ntmps)
  (h : wCode (RSim P w0) fc.body (frame0 args) S (bodyN fc Q)) : RSim P w0 f args S Q := by
 unfold chkFnD at hc
 split at hc <;> (try (cases hc; done))
 rename_i fn hfn
 split at hc <;> (try (cases hc; done))
 rename_i c hb
 simp only [Bool.and_eq_true, decide_eq_true_eq, Bool.not_eq_true'] at hc
 obtain ⟨⟨⟨h1, h2⟩, h3⟩, h4⟩ := hc
 refine ⟨⟨fn, hfn, by rw [hb]; rfl, h1⟩, fun g w us hW hr => ?_⟩
 refine calls_of_wp_defers hfn hb ?_
 have hlen : us.length = args.length := hr.len.symm
 have hF : RelF g fc.ntmps (frame0 args) (us.toArray ++ Array.replicate (fn.ntmps - us.toArray.size) undef) := by
  refine ⟨by simp; omega, fun i hi => ?_⟩
  have e : (us.toArray ++ Array.replicate (fn.ntmps - us.toArray.size) undef).getD i undef = us.getD i undef := by
   simp only [Array.getD_eq_getD_getElem?, List.getD, Array.getElem?_append]
   split
   ·simp
   ·rename_i hh
    simp at hh
    rw [List.getElem?_eq_none hh, Array.getElem?_replicate]
    split <;> rfl
  rw [e]
  exact hr.getD i
 have fin : ∀ {D : List Deferred} {e : Exit} {a' : Act} {w' : World}, (D = [] ∨ ∃ ws : Array Value, D = [{ target := .fn (.func cf) ws, args := #[] }]) → QRel D w0 fc.ntmps g (bodyN fc Q) e a' w' →
   bodyPostD P fn (fun e w' => ∃ g' S' e', g.le g' ∧ RelW w0 g' S' w' ∧ RelEnd g' e' e ∧ Q e' S') e a' w' := fun {D e a' w'} hD q => by
  have key : ∀ {fr' : Fr} {S' : St} {g' : G}, a'.defers = D → g.le g' → RelW w0 g' S' w' → RelF g' fc.ntmps fr' a'.tmps → (match readRes fr' S' fc.res with | some v => Q (.ret v) S' | none => False) → Leaves P fn a'.tmps (fun e w' => ∃ g' S' e', g.le g' ∧ RelW w0 g' S' w' ∧ RelEnd g' e' e ∧ Q e' S') a'.defers .returning w' := fun {fr' S' g'} hd hl hW' hF' hk => by
   split at hk <;> (try (cases hk; done))
   rename_i v hv
   obtain ⟨u, e1, k1⟩ := res_sim hW' hF' h3 hv
   rw [hd]
   exact leave_of hi hD ⟨u, e1, g', S', .ret v, hl, hW', k1, hk⟩
  cases e with
  | normal =>
   obtain ⟨hd, g', fr', S', hl, hW', hF', hk⟩ := q
   exact key hd hl hW' hF' hk
  | ret =>
   obtain ⟨hd, g', fr', S', hl, hW', hF', hk⟩ := q
   exact key hd hl hW' hF' hk
  | exit id =>
   obtain ⟨hd, g', fr', S', hl, hW', hF', hk⟩ := q
   exact hk.elim
  | goto l => exact q.elim
  | panic ch =>
   obtain ⟨hd, g', fr', S', v, u, rfl, hl, hW', k1, hk⟩ := q
   exact hk.elim
  | outgrown => exact q.elim
 refine wp_mono (sim_codeD hm h4 (G.le.refl g) hW hF rfl h) fun e a' w' q => ?_
 rcases q with q | ⟨ws, q⟩
 ·exact fin (.inl rfl) q
 ·exact fin (.inr ⟨ws, rfl⟩) q
def chkIdleR (P : Program) (n : Nat) (oR oA oM oN : Oper) (c : Tmp) : Bool := match oR.dst, oR.op, oR.guard, oA.dst, oA.op, oA.guard, oM.dst, oM.op, oM.guard, oN.dst, oN.op, oN.guard with
 | some t6, .call ⟨.builtin .recover, asX, _⟩, none, some t3, .assign (.tmp u6), none, some t7, .move (.tmp u3), none, some t8, .binOp .neq ty (.tmp u7) (.const .nilIface) _, none =>
  decide (asX.size = 0) && (decide (t6 = u6) && (decide (t3 = u3) && (decide (t7 = u7) && (decide (t8 = c) && (decide (t6 < n) && (decide (t3 < n) && (decide (t7 < n) && (decide (t8 < n) && (match P.underlying ty with | some (.interface _) => true | _ => false)))))))))
 | _, _, _, _, _, _, _, _, _, _, _, _ => false
def chkIdle (P : Program) (cf : FuncId) : Bool := match P.funcs[cf]? with
 | some fn => match fn.body with
  | some (.seq (.region _ r0 false) (.seq (.region _ r1 false) (.cond (.tmp c) _ .skip))) => match r0, r1 with
   | ⟨[oR, oA]⟩, ⟨[oM, oN]⟩ => !(fn.name == "runtime.NumGoroutine") && (decide (fn.results.size = 0) && chkIdleR P fn.ntmps oR oA oM oN c)
   | _, _ => false
  | _ => false
 | none => false
theorem eq_nils {d : Nat} {ty : TypeId} {ms : Array (String × TypeId)} {w : World} (hty : P.underlying ty = some (.interface ms)) : (Op.equalIn (d + 1) ty .nilIface .nilIface).run P w = .ok true w := by
 simp [Op.equalIn, run_underlying hty]
theorem idle_ok {cf : FuncId} (hc : chkIdle P cf = true) : Idle P cf := by
 unfold chkIdle at hc
 split at hc <;> (try (cases hc; done))
 rename_i fn hfn
 split at hc <;> (try (cases hc; done))
 rename_i i0 r0 i1 r1 c X hb
 split at hc <;> (try (cases hc; done))
 rename_i oR oA oM oN
 simp only [Bool.and_eq_true, Bool.not_eq_true', decide_eq_true_eq] at hc
 obtain ⟨hname, hres, hc⟩ := hc
 refine ⟨⟨fn, hfn, by rw [hb]; rfl, hname⟩, fun args w => callsD_of_wpS hfn hb fun c₀ cs hm => ?_⟩
 unfold chkIdleR at hc
 split at hc <;> (try (cases hc; done))
 rename_i t6 asX ats t3 u6 t7 u3 t8 ty u7 ty' e1 e2 e3 e4 e5 e6 e7 e8 e9 e10 e11 e12
 simp only [Bool.and_eq_true, decide_eq_true_eq] at hc
 obtain ⟨has, rfl, rfl, rfl, rfl, l6, l3, l7, l8, hty⟩ := hc
 obtain ⟨ms, hty⟩ : ∃ ms, P.underlying ty = some (.interface ms) := by
  split at hty
  ·exact ⟨_, by assumption⟩
  ·cases hty
 have hnone : recoverD (c₀ :: cs) = none := by simp [recoverD, hm]
 generalize ha : ({ tmps := args ++ Array.replicate (fn.ntmps - args.size) undef, defers := [] } : Act) = a
 have hsz : fn.ntmps ≤ a.tmps.size := by rw [← ha]; simp; omega
 have hdf : a.defers = [] := by rw [← ha]
 have w0 : ∀ {o : Oper} {ops : Array Oper} {a : Act}, o.guard = none → Region.wanted o (yielded ops a.tmps) = true := fun {o ops a} h => by unfold Region.wanted; rw [h]
 refine wpS_seq (wpS_region ?_)
 show wpOpsS P #[oR, oA] _ [0, 1] a (c₀ :: cs) w
 simp only [wpOpsS]
 rw [show (#[oR, oA] : Array Oper)[0]? = some oR from rfl, show (#[oR, oA] : Array Oper)[1]? = some oA from rfl]
 simp only [w0 e3, if_true]
 have hrun : ∀ ρ, (execOp ρ oR).run P w = .ok .recover w := fun ρ => by
  have : asX = #[] := Array.eq_empty_of_size_eq_zero has
  simp [execOp, e2, resolve, invoke, builtin, this]
 rw [hrun]
 simp only [hnone, w0 e6, if_true]
 rw [e1]
 have hA : ∀ (a : Act) (w : World), (execOp a.eval oA).run P w = .ok (.value (a.eval (.tmp t6))) w := fun a w => by simp [execOp, e5]
 rw [hA]
 simp only [Oper.upon, e4]
 show Code.wpS P _ _ _ _ _
 refine wpS_seq (wpS_region ?_)
 show wpOpsS P #[oM, oN] _ [0, 1] _ (c₀ :: cs) w
 simp only [wpOpsS]
 rw [show (#[oM, oN] : Array Oper)[0]? = some oM from rfl, show (#[oM, oN] : Array Oper)[1]? = some oN from rfl]
 simp only [w0 e9, if_true]
 have hM : ∀ (a : Act) (w : World), (execOp a.eval oM).run P w = .ok (.value (a.eval (.tmp t3))) w := fun a w => by simp [execOp, e8]
 rw [hM]
 simp only [Oper.upon, e7, w0 e12, if_true]
 have v6 : ((a.put (some t6) .nilIface).eval (.tmp t6)) = .nilIface := by
  have : t6 < a.tmps.size := Nat.lt_of_lt_of_le l6 hsz
  simp [Act.put, Act.eval, this]
 rw [v6]
 have v3 : (((a.put (some t6) .nilIface).put (some t3) .nilIface).eval (.tmp t3)) = .nilIface := by
  have : t3 < a.tmps.size := Nat.lt_of_lt_of_le l3 hsz
  simp [Act.put, Act.eval, this]
 rw [v3]
 have v7 : ((((a.put (some t6) .nilIface).put (some t3) .nilIface).put (some t7) .nilIface).eval (.tmp t7)) = .nilIface := by
  have : t7 < a.tmps.size := Nat.lt_of_lt_of_le l7 hsz
  simp [Act.put, Act.eval, this]
 have hN : (execOp (((a.put (some t6) .nilIface).put (some t3) .nilIface).put (some t7) .nilIface).eval oN).run P w = .ok (.value (.bool false)) w := by
  have hg : (eqGuard .neq ty (.tmp t7) (.const .nilIface) .nilIface .nilIface).run P w = .ok () w := by simp [eqGuard]
  have he : (Op.equal ty .nilIface .nilIface).run P w = .ok true w := by
   unfold Op.equal Op.maxDepth
   exact eq_nils (d := 9999) hty
  have hb : (Go.binOp .neq ty .nilIface .nilIface).run P w = .ok (.bool false) w := by
   simp only [Go.binOp, Sem.run_bind, he, Result.andThen_ok]; rfl
  simp only [execOp, e11, v7]
  simp only [Act.eval, Sem.run_bind, hg, Result.andThen_ok, hb]
  rfl
 rw [hN]
 simp only [Oper.upon, e10]
 show Code.wpS P _ _ _ _ _
 have v8 : (((((a.put (some t6) .nilIface).put (some t3) .nilIface).put (some t7) .nilIface).put (some t8) (.bool false)).eval (.tmp t8)) = .bool false := by
  have : t8 < a.tmps.size := Nat.lt_of_lt_of_le l8 hsz
  simp [Act.put, Act.eval, this]
 refine wpS_cond (t := false) v8 ?_
 refine wpS_of_wp (wp_skip ?_)
 refine ⟨hdf, .returning, ?_, .tuple #[], ?_, ⟨_, rfl⟩, rfl, rfl⟩
 ·have : ({ c₀ with mode := .returning } : Frame) = c₀ := by rw [← hm]
  rw [this]
 ·have : fn.results = #[] := Array.eq_empty_of_size_eq_zero hres
  simp [results, this]
def FnOk (P : Program) (f : FuncId) (fc : FnC) : Prop := ∀ (w0 : World) (args : List V) (S : St) (Q : AEnd → St → Prop), args.length ≤ fc.ntmps → wCode (RSim P w0) fc.body (frame0 args) S (bodyN fc Q) → RSim P w0 f args S Q
theorem FnOk.chk (hm : P.follows .mixedOrders = true) {f : FuncId} {fc : FnC} (hc : chkFn P f fc = true) : FnOk P f fc := fun w0 args S Q hn h =>
 RSim.code hm hc hn (wCode_mono RSim.le _ _ _ _ _ (fun e fr S h => by
  cases e with
  | normal => exact h
  | ret => exact h
  | exit i => exact h.elim
  | panic v => exact h.elim) h)
theorem FnOk.dfr (hm : P.follows .mixedOrders = true) {f cf : FuncId} {fc : FnC} (hi : chkIdle P cf = true) (hc : chkFnD P f cf fc = true) : FnOk P f fc := fun w0 args S Q hn h => RSim.codeD hm (idle_ok hi) hc hn h
end
end Go.VM
