/-
  The value machine: every operation that changes nothing: the model tells what the value machine tells.
-/
import Derived.Test.YtddjanglghgoeaaVmSimF
set_option linter.unusedVariables false
set_option linter.unusedSimpArgs false
namespace Go.VM
open Go Go.RowKit

section
variable {P : Program} {w0 w : World} {g : G} {S : St} {n : Nat} {fr : Fr} {a : Act}

theorem bytes_rel {cs : List V} {us : List Value} (h : RelL g cs us) : ∀ {l : List UInt8}, bytesOf cs = some l → us = (l.map fun b => (b.toNat : Int)).map (Value.int .u8) ∨ ∃ ns : List Int, us = ns.map (Value.int .u8) ∧ l = ns.map fun n => UInt8.ofNat n.toNat := by
  intro l hl
  right
  induction cs generalizing us l with
  | nil => simp only [bytesOf] at hl; injection hl with hl; subst hl; obtain rfl : us = [] := h; exact ⟨[], rfl, rfl⟩
  | cons c cs ih =>
    obtain ⟨u, r, rfl, h1, h2⟩ := h
    unfold bytesOf at hl
    split at hl <;> (try (cases hl; done))
    · rename_i heq; cases heq
    · rename_i k rr heq
      injection heq with e1 e2; subst e1; subst e2
      obtain ⟨l', hl', rfl⟩ := Option.map_eq_some_iff.1 hl
      obtain ⟨ns, rfl, rfl⟩ := ih h2 hl'
      rw [rel_int h1]
      exact ⟨k :: ns, rfl, rfl⟩

/-- What is told by a slice or a string, on both sides. -/
theorem elems_rel (hW : RelW w0 g S w) {sz m : Nat} {v : V} {u : Value} {cs : List V} (h : RelV g v u) (he : v.elems S sz = some (m, cs)) :
    cs.length = m * sz ∧ ∃ us, RelL g cs us ∧ Ones us ∧
      ((∃ (q : Option Addr) (c : Nat), u = .slice q m c ∧ (m = 0 ∨ ∃ b p, q = some ⟨b, p, none⟩ ∧ Reads w b p us)) ∨ (∃ s, u = .string s ∧ sz = 1 ∧ m = s.size ∧ us = s.data.toList.map fun b => .int .u8 b.toNat)) := by
  unfold V.elems at he
  split at he
  · rename_i cs' m' sz' t
    split at he
    · rename_i ht
      injection he with he
      injection he with e1 e2
      subst e1; subst e2
      obtain ⟨hl, h⟩ := h
      rcases h with ⟨_, hm, hcs, rfl⟩ | ⟨ht', _⟩ | ⟨ht', _⟩
      · exact ⟨by simp, [], rfl, fun _ hx => (by cases hx), .inl ⟨none, 0, rfl, .inl rfl⟩⟩
      · exact absurd ht ht'
      · rcases ht' with h' | h' <;> (rw [h'] at ht; cases ht)
    · rename_i ht
      split at he
      · rename_i hsz
        injection he with he
        injection he with e1 e2
        subst e1; subst e2; subst hsz
        obtain ⟨hl, h⟩ := h
        rcases h with ⟨ht', _⟩ | ⟨_, b, p, cap, us, rfl, hc, r, on, ic, _⟩ | ⟨_, rfl, rfl, x, rfl⟩
        · exact absurd ht' ht
        · exact ⟨hl, us, r, on, .inl ⟨_, cap, rfl, .inr ⟨b, p, rfl, hW.reads ic⟩⟩⟩
        · exact ⟨hl, [], rfl, fun _ hx => (by cases hx), .inl ⟨some x, 0, rfl, .inl rfl⟩⟩
      · cases he
  · rename_i o off m' sz'
    split at he
    · rename_i hsz
      subst hsz
      obtain ⟨ds, hds, he⟩ := Option.bind_eq_some_iff.1 he
      split at he
      · rename_i hle
        injection he with he
        injection he with e1 e2
        subst e1; subst e2
        obtain ⟨_, c, rfl, _⟩ := h
        obtain ⟨xs, r, on, rd⟩ := hW.cells hds
        refine ⟨by rw [List.length_take, List.length_drop]; omega, _, (r.drop off).take _, (on.drop off).take _, .inl ⟨_, c, rfl, .inr ⟨_, _, rfl, (rd.drop off).take _⟩⟩⟩
      · cases he
    · cases he
  · rename_i s
    split at he
    · rename_i hsz
      injection he with he
      injection he with e1 e2
      subst e1; subst e2; subst hsz
      refine ⟨by simp, s.data.toList.map fun b => .int .u8 b.toNat, ?_, ?_, .inr ⟨s, rel_str h, rfl, rfl, rfl⟩⟩
      · refine RelL_iff.2 ⟨by simp, fun j c u hc hu => ?_⟩
        simp only [List.getElem?_map, Option.map_eq_some_iff] at hc hu
        obtain ⟨b, hb, rfl⟩ := hc
        obtain ⟨b', hb', rfl⟩ := hu
        rw [hb] at hb'
        injection hb' with hb'; subst hb'
        rfl
      · intro x hx
        obtain ⟨b, _, rfl⟩ := List.mem_map.1 hx
        rfl
    · cases he
  · cases he

theorem simConv (hW : RelW w0 g S w) {c : Cv} {x v : V} {u : Value} (hx : RelV g x u) (hv : V.conv S c x = some v) {src dst : TypeId}
    (hc : chkCv P src dst c = true) : ∃ r, (convert src dst u).run P w = .ok r w ∧ RelV g v r := by
  unfold V.conv at hv
  split at hv
  · simp only [chkCv] at hc
    split at hc <;> (try (cases hc; done))
    rename_i h1 h2
    injection hv with hv; subst hv
    rw [rel_str hx]
    exact ⟨_, by simp [convert, run_underlying h1, run_underlying h2], rfl⟩
  · simp only [chkCv] at hc
    split at hc <;> (try (cases hc; done))
    rename_i h1 h2
    have hk := of_decide_eq_true hc
    subst hk
    injection hv with hv; subst hv
    rw [rel_int hx]
    exact ⟨_, by simp [convert, run_underlying h1, run_underlying h2, Conv.intToInt], rfl⟩
  · simp only [chkCv] at hc
    split at hc <;> (try (cases hc; done))
    rename_i h1 h2
    injection hv with hv; subst hv
    rw [rel_int hx]
    exact ⟨_, by simp [convert, run_underlying h1, run_underlying h2, Conv.intToString], rfl⟩
  · cases hv
  · rename_i hns
    simp only [chkCv] at hc
    split at hc <;> (try (cases hc; done))
    rename_i h1 h2
    split at hc <;> (try (cases hc; done))
    rename_i h3
    obtain ⟨⟨m, cs⟩, he, hv⟩ := Option.bind_eq_some_iff.1 hv
    obtain ⟨l, hl, rfl⟩ := Option.map_eq_some_iff.1 hv
    obtain ⟨hlen, us, r, on, hsh⟩ := elems_rel hW hx he
    rcases bytes_rel r hl with hus | ⟨ns, hus, hln⟩
    · refine ⟨.string ⟨l.toArray⟩, ?_, rfl⟩
      have hml : l.length = m := by have := r.len; rw [hus] at this; simp at this; omega
      rcases hsh with ⟨q, c, rfl, hq⟩ | ⟨s, rfl, _⟩
      · rcases hq with rfl | ⟨b, p, rfl, rd⟩
        · obtain rfl : l = [] := List.eq_nil_of_length_eq_zero hml
          cases q with
          | none => rw [run_convert_bytes_nil w src _ h1 h3 0 c dst h2]; rfl
          | some q => exact run_convert_bytes_back w src dst _ q c [] h1 h3 h2 (fun j hj => by simp at hj)
        · rw [← hml]
          refine run_convert_bytes_back w src dst _ ⟨b, p, none⟩ c l h1 h3 h2 (fun j hj => ?_)
          rw [add_at]
          refine rd j _ ?_
          rw [hus]
          simp [hj]
      · cases x with
        | str s' => exact absurd rfl (hns s')
        | _ => simp [V.elems] at he <;> (try (unfold RelV at hx)) <;> (try (obtain ⟨_, hx⟩ := hx)) <;> (try simp at hx)
    · refine ⟨.string ⟨l.toArray⟩, ?_, rfl⟩
      have hml : ns.length = m := by have := r.len; rw [hus] at this; simp at this; omega
      rcases hsh with ⟨q, c, rfl, hq⟩ | ⟨s, rfl, _⟩
      · rcases hq with rfl | ⟨b, p, rfl, rd⟩
        · obtain rfl : ns = [] := List.eq_nil_of_length_eq_zero hml
          simp at hln
          subst hln
          cases q with
          | none => rw [run_convert_bytes_nil w src _ h1 h3 0 c dst h2]; rfl
          | some q => exact run_convert_bytes_back w src dst _ q c [] h1 h3 h2 (fun j hj => by simp at hj)
        · have := run_convert_bytes_arg (P := P) w src _ h1 h3 b p m c ns hml (fun i hi => by
            refine rd i _ ?_
            rw [hus]
            simp [List.getD, List.getElem?_eq_getElem (show i < ns.length by omega)]) dst h2
          rw [this, hln]
          rfl
      · cases x with
        | str s' => exact absurd rfl (hns s')
        | _ => simp [V.elems] at he <;> (try (unfold RelV at hx)) <;> (try (obtain ⟨_, hx⟩ := hx)) <;> (try simp at hx)
  · cases hv
end
end Go.VM
