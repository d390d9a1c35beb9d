/-
  The value machine and the model: how a value, a store and a world hang together. What is told by a slice is sealed ('ice': cells that no step changes any more); what may change has a block of its own.
-/
import Derived.Test.YtddjanglghgoeaaVmDef
set_option linter.unusedVariables false
set_option linter.unusedSimpArgs false
namespace Go.VM
open Go Go.RowKit

/-- How the abstract lies in the concrete: the sealed cells; where an object lies (a token: where its slice ends); the blocks' sizes. -/
structure G where
  ice : Nat → Nat → Option Value
  loc : Nat → Nat × Nat
  n : Nat
  bs : Nat → Nat
  nb : Nat

structure G.le (a b : G) : Prop where
  ice : ∀ k i v, a.ice k i = some v → b.ice k i = some v
  n : a.n ≤ b.n
  loc : ∀ i, i < a.n → b.loc i = a.loc i
  nb : a.nb ≤ b.nb
  bs : ∀ k, k < a.nb → b.bs k = a.bs k

theorem G.le.refl (a : G) : a.le a := ⟨fun _ _ _ h => h, Nat.le_refl _, fun _ _ => rfl, Nat.le_refl _, fun _ _ => rfl⟩
theorem G.le.trans {a b c : G} (h : a.le b) (k : b.le c) : a.le c :=
  ⟨fun x i v hh => k.ice x i v (h.ice x i v hh), Nat.le_trans h.n k.n, fun i hi => (k.loc i (Nat.lt_of_lt_of_le hi h.n)).trans (h.loc i hi), Nat.le_trans h.nb k.nb,
   fun x hx => (k.bs x (Nat.lt_of_lt_of_le hx h.nb)).trans (h.bs x hx)⟩

def Ones (us : List Value) : Prop := ∀ u ∈ us, u.oneCell' = true
/-- These cells lie sealed from there on. -/
def Iced (g : G) (b p : Nat) (us : List Value) : Prop := ∀ (j : Nat) (v : Value), us[j]? = some v → g.ice b (p + j) = some v

theorem Iced.mono {g g' : G} (h : g.le g') {b p : Nat} {us : List Value} (k : Iced g b p us) : Iced g' b p us := fun j v hv => h.ice _ _ _ (k j v hv)
theorem Iced.drop {g : G} {b p : Nat} {us : List Value} (k : Iced g b p us) (m : Nat) : Iced g b (p + m) (us.drop m) := fun j v hv => by
  rw [List.getElem?_drop] at hv
  have := k (m + j) v hv
  rwa [← Nat.add_assoc] at this
theorem Iced.take {g : G} {b p : Nat} {us : List Value} (k : Iced g b p us) (m : Nat) : Iced g b p (us.take m) := fun j v hv => by
  rw [List.getElem?_take] at hv
  split at hv
  · exact k j v hv
  · cases hv

mutual
def RelV (g : G) : V → Value → Prop
  | .bool b, u => u = .bool b
  | .int k n, u => u = .int k n
  | .str s, u => u = .string s
  | .ptr none, u => u = .pointer none
  | .ptr (some (i, o)), u => i < g.n ∧ u = .pointer (some ⟨(g.loc i).1, (g.loc i).2 + o, none⟩)
  | .eptr cs, u => ∃ b p us, u = .pointer (some ⟨b, p, none⟩) ∧ RelL g cs us ∧ Ones us ∧ Iced g b p us
  | .sl cs n sz t, u => cs.length = n * sz ∧ ((t = .nil ∧ n = 0 ∧ cs = [] ∧ u = .slice none 0 0) ∨ (t ≠ .nil ∧ ∃ b p cap us, u = .slice (some ⟨b, p, none⟩) n cap ∧ n ≤ cap ∧ RelL g cs us ∧ Ones us ∧ Iced g b p us ∧
      (t = .cap → cap = n) ∧ (∀ k, t = .at k → k < g.n ∧ (g.loc k).1 = b ∧ (n < cap → (g.loc k).2 = p + n * sz ∧ b < g.nb ∧ p + cap * sz ≤ g.bs b))) ∨ ((t = .no ∨ t = .cap) ∧ n = 0 ∧ cs = [] ∧ ∃ a, u = .slice (some a) 0 0))
  | .msl o off n sz, u => o < g.n ∧ ∃ cap, u = .slice (some ⟨(g.loc o).1, (g.loc o).2 + off, none⟩) n cap ∧ n ≤ cap ∧ (g.loc o).1 < g.nb ∧ (g.loc o).2 + off + cap * sz ≤ g.bs (g.loc o).1
  | .map none, u => u = .map none
  | .map (some r), u => r < g.n ∧ u = .map (some (g.loc r).1)
  | .iter r, u => r < g.n ∧ u = .pointer (some ⟨(g.loc r).1, 0, none⟩)
  | .func f pre cap, u => ∃ us ws : List Value, u = .func (.func f) us.toArray ws.toArray ∧ RelL g pre us ∧ RelL g cap ws
  | .nilFunc, u => u = .nilFunc
  | .iface t v, u => ∃ x, u = .iface t x ∧ RelV g v x
  | .nilIface, u => u = .nilIface
  | .agg cs, u => ∃ us : List Value, u = .agg us.toArray ∧ RelL g cs us ∧ Ones us
  | .tup cs, u => ∃ us : List Value, u = .tuple us.toArray ∧ RelL g cs us
  | .poison, _ => True
def RelL (g : G) : List V → List Value → Prop
  | [], us => us = []
  | c :: cs, us => ∃ u r, us = u :: r ∧ RelV g c u ∧ RelL g cs r
end

mutual
theorem RelV_mono {g g' : G} (h : g.le g') : ∀ (v : V) (u : Value), RelV g v u → RelV g' v u
  | .bool b, u, k => k
  | .int _ _, u, k => k
  | .str _, u, k => k
  | .ptr none, u, k => k
  | .ptr (some (i, o)), u, k => by
    unfold RelV at k ⊢
    exact ⟨Nat.lt_of_lt_of_le k.1 h.n, by rw [h.loc i k.1]; exact k.2⟩
  | .eptr cs, u, k => by
    unfold RelV at k ⊢
    obtain ⟨b, p, us, e, r, o, c⟩ := k
    exact ⟨b, p, us, e, RelL_mono h cs us r, o, c.mono h⟩
  | .sl cs n sz t, u, k => by
    unfold RelV at k ⊢
    obtain ⟨hl, k⟩ := k
    refine ⟨hl, k.imp id (Or.imp ?_ id)⟩
    rintro ⟨ht, b, p, cap, us, e, hc, r, o, c, h1, h2⟩
    refine ⟨ht, b, p, cap, us, e, hc, RelL_mono h cs us r, o, c.mono h, h1, fun x hx => ?_⟩
    obtain ⟨h3, h30, h4⟩ := h2 x hx
    refine ⟨Nat.lt_of_lt_of_le h3 h.n, by rw [h.loc x h3]; exact h30, fun hn => ?_⟩
    obtain ⟨h5, h6, h7⟩ := h4 hn
    exact ⟨by rw [h.loc x h3]; exact h5, Nat.lt_of_lt_of_le h6 h.nb, by rw [h.bs b h6]; exact h7⟩
  | .msl o off n sz, u, k => by
    unfold RelV at k ⊢
    obtain ⟨ho, cap, e, hc, hb, hs⟩ := k
    refine ⟨Nat.lt_of_lt_of_le ho h.n, cap, ?_⟩
    rw [h.loc o ho, h.bs _ hb]
    exact ⟨e, hc, Nat.lt_of_lt_of_le hb h.nb, hs⟩
  | .map none, u, k => k
  | .map (some r), u, k => by
    unfold RelV at k ⊢
    exact ⟨Nat.lt_of_lt_of_le k.1 h.n, by rw [h.loc r k.1]; exact k.2⟩
  | .iter r, u, k => by
    unfold RelV at k ⊢
    exact ⟨Nat.lt_of_lt_of_le k.1 h.n, by rw [h.loc r k.1]; exact k.2⟩
  | .func f pre cap, u, k => by
    unfold RelV at k ⊢
    obtain ⟨us, ws, e, a, b⟩ := k
    exact ⟨us, ws, e, RelL_mono h pre us a, RelL_mono h cap ws b⟩
  | .nilFunc, u, k => k
  | .iface t v, u, k => by
    unfold RelV at k ⊢
    obtain ⟨x, e, a⟩ := k
    exact ⟨x, e, RelV_mono h v x a⟩
  | .nilIface, u, k => k
  | .agg cs, u, k => by
    unfold RelV at k ⊢
    obtain ⟨us, e, a, o⟩ := k
    exact ⟨us, e, RelL_mono h cs us a, o⟩
  | .tup cs, u, k => by
    unfold RelV at k ⊢
    obtain ⟨us, e, a⟩ := k
    exact ⟨us, e, RelL_mono h cs us a⟩
  | .poison, u, _ => by unfold RelV; trivial
theorem RelL_mono {g g' : G} (h : g.le g') : ∀ (cs : List V) (us : List Value), RelL g cs us → RelL g' cs us
  | [], us, k => k
  | c :: cs, us, k => by
    unfold RelL at k ⊢
    obtain ⟨u, r, e, a, b⟩ := k
    exact ⟨u, r, e, RelV_mono h c u a, RelL_mono h cs r b⟩
end

/-! ### Lists -/
theorem RelL_iff {g : G} : ∀ {cs : List V} {us : List Value}, RelL g cs us ↔ cs.length = us.length ∧ ∀ (j : Nat) (c : V) (u : Value), cs[j]? = some c → us[j]? = some u → RelV g c u
  | [], us => by
    unfold RelL
    constructor
    · rintro rfl; exact ⟨rfl, fun j c u h => by simp at h⟩
    · rintro ⟨h, _⟩; exact List.eq_nil_of_length_eq_zero h.symm
  | c :: cs, us => by
    unfold RelL
    constructor
    · rintro ⟨u, r, rfl, a, b⟩
      obtain ⟨h1, h2⟩ := RelL_iff.1 b
      refine ⟨by simp [h1], fun j c' u' hc hu => ?_⟩
      cases j with
      | zero => simp at hc hu; subst hc; subst hu; exact a
      | succ j => simp at hc hu; exact h2 j c' u' hc hu
    · rintro ⟨h1, h2⟩
      match us, h1 with
      | u :: r, h1 =>
        exact ⟨u, r, rfl, h2 0 c u (by simp) (by simp), RelL_iff.2 ⟨by simpa using h1, fun j c' u' hc hu => h2 (j + 1) c' u' (by simpa using hc) (by simpa using hu)⟩⟩

theorem RelL.len {g : G} {cs : List V} {us : List Value} (h : RelL g cs us) : cs.length = us.length := (RelL_iff.1 h).1
theorem RelL.at_ {g : G} {cs : List V} {us : List Value} (h : RelL g cs us) {j : Nat} {c : V} (hc : cs[j]? = some c) : ∃ u, us[j]? = some u ∧ RelV g c u := by
  have hl := h.len
  have hj := (List.getElem?_eq_some_iff.1 hc).1
  refine ⟨us[j]'(by omega), List.getElem?_eq_getElem (by omega), (RelL_iff.1 h).2 j c _ hc (List.getElem?_eq_getElem (by omega))⟩
theorem RelL.take {g : G} {cs : List V} {us : List Value} (h : RelL g cs us) (m : Nat) : RelL g (cs.take m) (us.take m) := by
  obtain ⟨h1, h2⟩ := RelL_iff.1 h
  refine RelL_iff.2 ⟨by simp [h1], fun j c u hc hu => ?_⟩
  rw [List.getElem?_take] at hc hu
  split at hc
  · rename_i hj; rw [if_pos hj] at hu; exact h2 j c u hc hu
  · cases hc
theorem RelL.drop {g : G} {cs : List V} {us : List Value} (h : RelL g cs us) (m : Nat) : RelL g (cs.drop m) (us.drop m) := by
  obtain ⟨h1, h2⟩ := RelL_iff.1 h
  refine RelL_iff.2 ⟨by simp [h1], fun j c u hc hu => ?_⟩
  rw [List.getElem?_drop] at hc hu
  exact h2 _ c u hc hu
theorem RelL.append {g : G} : ∀ {cs : List V} {us : List Value} {ds : List V} {ws : List Value}, RelL g cs us → RelL g ds ws → RelL g (cs ++ ds) (us ++ ws)
  | [], us, ds, ws, h, k => by unfold RelL at h; subst h; exact k
  | c :: cs, us, ds, ws, h, k => by
    unfold RelL at h
    obtain ⟨u, r, rfl, a, b⟩ := h
    exact ⟨u, r ++ ws, rfl, a, RelL.append b k⟩
theorem Ones.take {us : List Value} (h : Ones us) (m : Nat) : Ones (us.take m) := fun u hu => h u (List.mem_of_mem_take hu)
theorem Ones.drop {us : List Value} (h : Ones us) (m : Nat) : Ones (us.drop m) := fun u hu => h u (List.mem_of_mem_drop hu)
theorem Ones.append {us ws : List Value} (h : Ones us) (k : Ones ws) : Ones (us ++ ws) := fun u hu => by
  rcases List.mem_append.1 hu with hu | hu
  · exact h u hu
  · exact k u hu

theorem one_rel {g : G} {v : V} {u : Value} (h : RelV g v u) (h1 : v.one = true) : u.oneCell' = true := by
  cases v <;> simp [V.one] at h1 <;> (try (unfold RelV at h)) <;> (try subst h) <;> try rfl
  case ptr p =>
    cases p with
    | none => unfold RelV at h; subst h; rfl
    | some q => obtain ⟨i, o⟩ := q; unfold RelV at h; obtain ⟨_, rfl⟩ := h; rfl
  case eptr => obtain ⟨_, _, _, rfl, _⟩ := h; rfl
  case sl =>
    obtain ⟨_, h⟩ := h
    rcases h with ⟨_, _, _, rfl⟩ | ⟨_, _, _, _, _, rfl, _⟩ | ⟨_, _, _, _, rfl⟩ <;> rfl
  case msl => obtain ⟨_, _, rfl, _⟩ := h; rfl
  case map r =>
    cases r with
    | none => unfold RelV at h; subst h; rfl
    | some r => unfold RelV at h; obtain ⟨_, rfl⟩ := h; rfl
  case iter => obtain ⟨_, rfl⟩ := h; rfl
  case func => obtain ⟨_, _, rfl, _⟩ := h; rfl
  case iface => obtain ⟨_, rfl, _⟩ := h; rfl

theorem ones_rel {g : G} {cs : List V} {us : List Value} (h : RelL g cs us) (h1 : cs.all V.one = true) : Ones us := by
  intro u hu
  obtain ⟨j, hj⟩ := List.mem_iff_getElem?.1 hu
  have hl := h.len
  have hjl := (List.getElem?_eq_some_iff.1 hj).1
  have hc : cs[j]? = some (cs[j]'(by omega)) := List.getElem?_eq_getElem (by omega)
  exact one_rel ((RelL_iff.1 h).2 j _ u hc hj) (List.all_eq_true.1 h1 _ (List.getElem_mem _))

/-- The cells of a value, on both sides. -/
theorem cells_rel {g : G} {v : V} {u : Value} (h : RelV g v u) (h1 : v.cells.all V.one = true) : RelL g v.cells u.cells.toList ∧ Ones u.cells.toList := by
  by_cases ha : ∃ cs, v = .agg cs
  · obtain ⟨cs, rfl⟩ := ha
    unfold RelV at h
    obtain ⟨us, rfl, a, o⟩ := h
    exact ⟨by simpa [V.cells, Value.cells] using a, by simpa [Value.cells] using o⟩
  · have hc : v.cells = [v] := by
      cases v <;> first | rfl | exact absurd ⟨_, rfl⟩ ha
    rw [hc] at h1 ⊢
    have ho : v.one = true := by simpa using h1
    have hu := one_rel h ho
    have huc : u.cells = #[u] := by
      cases u <;> first | rfl | simp [Value.oneCell'] at hu
    rw [huc]
    exact ⟨⟨u, [], rfl, h, rfl⟩, fun x hx => by simp at hx; subst hx; exact hu⟩

/-! ### Objects and the world -/
def NoFz (fr : Nat × Nat) (n : Nat) : Prop := fr.1 = fr.2 ∨ n ≤ fr.1
theorem NoFz.at_ {fr : Nat × Nat} {n : Nat} (h : NoFz fr n) (i : Nat) (hi : i < n) : ¬ (fr.1 ≤ i ∧ i < fr.2) := by
  rcases h with h | h <;> omega

def RelM (g : G) (es : List (V × V × Nat)) (ms : List MapEntry) : Prop :=
  es.length = ms.length ∧ ∀ (j : Nat) (e : V × V × Nat) (m : MapEntry), es[j]? = some e → ms[j]? = some m → RelV g e.1 m.key ∧ RelV g e.2.1 m.val ∧ m.born = e.2.2 ∧ (∃ kk, e.1.isKey kk = true) ∧ e.2.1.one = true

def RelO (g : G) (b q : Nat) : AObj → Obj → Prop
  | .cells cs, o => ∃ us ty fr, o = .cells us ty fr ∧ NoFz fr us.size ∧ us.size = g.bs b ∧ (∀ i, g.ice b i = none) ∧ ∃ xs, RelL g cs xs ∧ Ones xs ∧ ∀ (j : Nat) (v : Value), xs[j]? = some v → us[q + j]? = some v
  | .tok, o => ∃ us ty fr, o = .cells us ty fr ∧ NoFz fr us.size ∧ us.size = g.bs b ∧ ∀ i, q ≤ i → g.ice b i = none
  | .map es c, o => ∃ ms, o = .map ms c ∧ RelM g es ms.toList
  | .fix cs, o => q = 0 ∧ ∃ us ty fr xs, o = .cells us ty fr ∧ RelL g cs xs ∧ ∀ (j : Nat) (v : Value), xs[j]? = some v → us[j]? = some v
  | .iter m since seen last, o => (∀ r, m = some r → r < g.n) ∧ o = .mapIter (m.map fun r => (g.loc r).1) since seen.toArray last

theorem RelM.mono {g g' : G} (h : g.le g') {es : List (V × V × Nat)} {ms : List MapEntry} (k : RelM g es ms) : RelM g' es ms :=
  ⟨k.1, fun j e m he hm => by
    obtain ⟨a, b, c⟩ := k.2 j e m he hm
    exact ⟨RelV_mono h _ _ a, RelV_mono h _ _ b, c⟩⟩

theorem RelO.mono {g g' : G} (h : g.le g') {b q : Nat} {x : AObj} {o : Obj} (k : RelO g b q x o) (hb : b < g.nb) (hi : ∀ i, g'.ice b i = g.ice b i) : RelO g' b q x o := by
  cases x with
  | cells cs =>
    obtain ⟨us, ty, fr, e, f, s, n, xs, r, on, c⟩ := k
    exact ⟨us, ty, fr, e, f, by rw [h.bs b hb]; exact s, fun i => by rw [hi]; exact n i, xs, RelL_mono h _ _ r, on, c⟩
  | tok =>
    obtain ⟨us, ty, fr, e, f, s, n⟩ := k
    exact ⟨us, ty, fr, e, f, by rw [h.bs b hb]; exact s, fun i hq => by rw [hi]; exact n i hq⟩
  | map es c =>
    obtain ⟨ms, e, r⟩ := k
    exact ⟨ms, e, r.mono h⟩
  | fix cs =>
    obtain ⟨e, us, ty, fr, xs, h1, h2, h3⟩ := k
    exact ⟨e, us, ty, fr, xs, h1, RelL_mono h _ _ h2, h3⟩
  | iter m since seen last =>
    obtain ⟨a, e⟩ := k
    refine ⟨fun r hr => Nat.lt_of_lt_of_le (a r hr) h.n, ?_⟩
    cases m with
    | none => exact e
    | some r =>
      rw [e]
      simp only [Option.map_some]
      rw [h.loc r (a r rfl)]

structure RelW (w0 : World) (g : G) (S : St) (w : World) : Prop where
  below : Below w0.heap.size w0 w
  nb : g.nb = w.heap.size
  n : g.n = S.n
  ice : ∀ b p u, g.ice b p = some u → w.cell? ⟨b, p, none⟩ = some u
  hp : ∀ i x, S.hp i = some x → i < S.n ∧ w0.heap.size ≤ (g.loc i).1 ∧ ∃ o, w.heap[(g.loc i).1]? = some o ∧ RelO g (g.loc i).1 (g.loc i).2 x o
  sep : ∀ i j x y, S.hp i = some x → S.hp j = some y → i ≠ j → (g.loc i).1 ≠ (g.loc j).1

section
variable {w0 w : World} {g : G} {S : St}

theorem RelW.lt (h : RelW w0 g S w) {i : Nat} {x : AObj} (hx : S.hp i = some x) : (g.loc i).1 < w.heap.size := by
  obtain ⟨_, _, o, ho, _⟩ := h.hp i x hx
  exact (Array.getElem?_eq_some_iff.1 ho).1

theorem RelW.iceLt (h : RelW w0 g S w) {b p : Nat} {u : Value} (hu : g.ice b p = some u) : b < w.heap.size :=
  World.block_lt_of_cell? w _ (h.ice b p u hu)

theorem RelW.drew (h : RelW w0 g S w) : RelW w0 g S w.drew :=
  ⟨h.below.drew, h.nb, h.n, fun b p u hu => h.ice b p u hu, h.hp, h.sep⟩
theorem RelW.drawn (h : RelW w0 g S w) : RelW w0 g S { w with drawn := w.drawn + 1 } := h.drew

theorem RelW.kill (h : RelW w0 g S w) (k : Nat) : RelW w0 g (S.kill k) w := by
  refine ⟨h.below, h.nb, h.n, h.ice, fun i x hx => ?_, fun i j x y hx hy hij => ?_⟩
  · simp only [St.kill] at hx
    split at hx
    · cases hx
    · exact h.hp i x hx
  · simp only [St.kill] at hx hy
    split at hx
    · cases hx
    split at hy
    · cases hy
    exact h.sep i j x y hx hy hij

/-- A new block of cells, sealed up to some place; an object with it. -/
def G.block (g : G) (us : Array Value) (e : Nat) : G :=
  { g with ice := fun b i => if b = g.nb then (if i < e then us[i]? else none) else g.ice b i, bs := fun b => if b = g.nb then us.size else g.bs b, nb := g.nb + 1 }
def G.obj (g : G) (b q : Nat) : G := { g with loc := fun i => if i = g.n then (b, q) else g.loc i, n := g.n + 1 }

theorem le_block (h : RelW w0 g S w) (us : Array Value) (e : Nat) : g.le (g.block us e) := by
  refine ⟨fun k i v hv => ?_, Nat.le_refl _, fun _ _ => rfl, by simp [G.block], fun k hk => ?_⟩
  · have := h.iceLt hv
    rw [← h.nb] at this
    simp only [G.block]
    rw [if_neg (by omega)]
    exact hv
  · simp only [G.block]
    rw [if_neg (by omega)]
theorem le_obj (g : G) (b q : Nat) : g.le (g.obj b q) :=
  ⟨fun _ _ _ h => h, by simp [G.obj], fun i hi => by simp only [G.obj]; rw [if_neg (by omega)], Nat.le_refl _, fun _ _ => rfl⟩

theorem RelW.block (h : RelW w0 g S w) (us : Array Value) (ty : TypeId) (fr : Nat × Nat) (e : Nat) : RelW w0 (g.block us e) S (w.alloc (.cells us ty fr)) := by
  have hle := le_block h us e
  refine ⟨h.below.alloc h.below.size _, by simp [G.block, h.nb], h.n, fun b p u hu => ?_, fun i x hx => ?_, h.sep⟩
  · simp only [G.block] at hu
    split at hu
    · rename_i hb
      split at hu
      · rw [hb, h.nb]
        rw [cell_of_row _ _ _ us ty fr (heap_alloc_new w _)]
        exact hu
      · cases hu
    · have := h.ice b p u hu
      rw [World.cell?_alloc_lt w _ _ (h.iceLt hu)]
      exact this
  · obtain ⟨h1, h2, o, h3, h4⟩ := h.hp i x hx
    have hlt := h.lt hx
    refine ⟨h1, h2, o, ?_, h4.mono hle (by rw [h.nb]; exact hlt) (fun p => ?_)⟩
    · show (w.alloc _).heap[(g.loc i).1]? = _
      refine (Below.heap_alloc w _ _ hlt).trans ?_
      exact h3
    · simp only [G.block]
      rw [if_neg (by rw [h.nb]; exact Nat.ne_of_lt hlt)]

/-- A new object at a block that no object has. -/
theorem RelW.obj (h : RelW w0 g S w) {b q : Nat} {x : AObj} {o : Obj} (hb : w.heap[b]? = some o) (hb0 : w0.heap.size ≤ b) (hfree : ∀ i y, S.hp i = some y → (g.loc i).1 ≠ b)
    (hx : RelO (g.obj b q) b q x o) : RelW w0 (g.obj b q) (S.add x) w := by
  have hle := le_obj g b q
  have hlt : b < w.heap.size := (Array.getElem?_eq_some_iff.1 hb).1
  have hl0 : (g.obj b q).loc g.n = (b, q) := by simp [G.obj]
  refine ⟨h.below, h.nb, by simp [G.obj, St.add, h.n], h.ice, fun i y hy => ?_, fun i j x' y' hx' hy' hij => ?_⟩
  · simp only [St.add] at hy
    split at hy
    · rename_i hi
      injection hy with hy; subst hy
      have : i = g.n := by rw [h.n]; exact hi
      rw [this, hl0]
      exact ⟨by simp [St.add, h.n], hb0, o, hb, hx⟩
    · obtain ⟨h1, h2, o', h3, h4⟩ := h.hp i y hy
      have hl : (g.obj b q).loc i = g.loc i := hle.loc i (by rw [h.n]; exact h1)
      rw [hl]
      exact ⟨by simp [St.add]; omega, h2, o', h3, h4.mono hle (by rw [h.nb]; exact h.lt hy) (fun _ => rfl)⟩
  · have hloc : ∀ i y, S.hp i = some y → (g.obj b q).loc i = g.loc i := fun i y hy => hle.loc i (by rw [h.n]; exact (h.hp i y hy).1)
    simp only [St.add] at hx' hy'
    split at hx' <;> split at hy'
    · omega
    · rename_i hi hj
      have : i = g.n := by rw [h.n]; exact hi
      rw [this, hl0, hloc j y' hy']
      exact fun e => hfree j y' hy' e.symm
    · rename_i hi hj
      have : j = g.n := by rw [h.n]; exact hj
      rw [this, hl0, hloc i x' hx']
      exact hfree i x' hx'
    · rw [hloc i x' hx', hloc j y' hy']
      exact h.sep i j x' y' hx' hy' hij

/-- What an object holds is another thing: its block alone has turned. -/
theorem RelW.upd (h : RelW w0 g S w) {i : Nat} {x x' : AObj} (hx : S.hp i = some x) {w' : World} (hw : Below w0.heap.size w0 w') (hsz : w'.heap.size = w.heap.size)
    (hold : ∀ k, k < w.heap.size → k ≠ (g.loc i).1 → w'.heap[k]? = w.heap[k]?) {o : Obj} (ho : w'.heap[(g.loc i).1]? = some o)
    (hice : ∀ p u, g.ice (g.loc i).1 p = some u → w'.cell? ⟨(g.loc i).1, p, none⟩ = some u)
    (hx' : RelO g (g.loc i).1 (g.loc i).2 x' o) : RelW w0 g (S.set i x') w' := by
  obtain ⟨h1, h2, _⟩ := h.hp i x hx
  refine ⟨hw, by rw [h.nb, hsz], h.n, fun b p u hu => ?_, fun j y hy => ?_, fun j k y z hy hz hjk => ?_⟩
  · by_cases hb : b = (g.loc i).1
    · subst hb; exact hice p u hu
    · rw [← h.ice b p u hu]
      exact World.cell?_of_block (hold b (h.iceLt hu) hb)
  · simp only [St.set] at hy
    split at hy
    · rename_i hj; subst hj
      injection hy with hy; subst hy
      exact ⟨h1, h2, o, ho, hx'⟩
    · rename_i hj
      obtain ⟨h3, h4, o', h5, h6⟩ := h.hp j y hy
      exact ⟨h3, h4, o', by rw [hold _ (h.lt hy) (h.sep j i y x hy hx hj)]; exact h5, h6⟩
  · have hlive : ∀ j y, (S.set i x').hp j = some y → ∃ z, S.hp j = some z := fun j y hy => by
      simp only [St.set] at hy
      split at hy
      · rename_i hj; subst hj; exact ⟨x, hx⟩
      · exact ⟨y, hy⟩
    obtain ⟨y', hy'⟩ := hlive j y hy
    obtain ⟨z', hz'⟩ := hlive k z hz
    exact h.sep j k y' z' hy' hz' hjk

/-- A block that no object has, whose unsealed cells may turn; more of it is sealed. -/
def G.ices (g : G) (b : Nat) (f : Nat → Option Value) : G := { g with ice := fun k i => if k = b then f i else g.ice k i }
theorem le_ices (g : G) (b : Nat) (f : Nat → Option Value) (hf : ∀ i v, g.ice b i = some v → f i = some v) : g.le (g.ices b f) := by
  refine ⟨fun k i v hv => ?_, Nat.le_refl _, fun _ _ => rfl, Nat.le_refl _, fun _ _ => rfl⟩
  simp only [G.ices]
  split
  · rename_i hk; subst hk; exact hf i v hv
  · exact hv
theorem RelW.ices (h : RelW w0 g S w) {b : Nat} {f : Nat → Option Value} (hfree : ∀ i y, S.hp i = some y → (g.loc i).1 ≠ b) (hf : ∀ i v, g.ice b i = some v → f i = some v)
    {w' : World} (hw : Below w0.heap.size w0 w') (hsz : w'.heap.size = w.heap.size) (hold : ∀ k, k < w.heap.size → k ≠ b → w'.heap[k]? = w.heap[k]?)
    (hice : ∀ i v, f i = some v → w'.cell? ⟨b, i, none⟩ = some v) : RelW w0 (g.ices b f) S w' := by
  have hle := le_ices g b f hf
  refine ⟨hw, by rw [hsz]; exact h.nb, h.n, fun k p u hu => ?_, fun j y hy => ?_, h.sep⟩
  · simp only [G.ices] at hu
    split at hu
    · rename_i hk; subst hk; exact hice p u hu
    · rename_i hk
      rw [← h.ice k p u hu]
      exact World.cell?_of_block (hold k (h.iceLt hu) hk)
  · obtain ⟨h3, h4, o', h5, h6⟩ := h.hp j y hy
    refine ⟨h3, h4, o', ?_, h6.mono hle (by rw [h.nb]; exact h.lt hy) (fun i => ?_)⟩
    · show w'.heap[(g.loc j).1]? = _
      rw [hold _ (h.lt hy) (hfree j y hy)]; exact h5
    · simp only [G.ices]; rw [if_neg (hfree j y hy)]
end
end Go.VM
