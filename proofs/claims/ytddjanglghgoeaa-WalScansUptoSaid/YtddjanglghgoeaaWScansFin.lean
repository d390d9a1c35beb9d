/-
  WalScans answers true, whatever it is asked within the bound.
-/
import Derived.Test.YtddjanglghgoeaaVmFin
import Derived.Test.YtddjanglghgoeaaWScans
import Derived.JoinedCond
set_option linter.unusedVariables false
set_option linter.unusedSimpArgs false
namespace Go.Proofs.Ytddjanglghgoeaa
open Go.VM Go.ChangeShapes Go.WideShapes Go.ChangeAt Go.RowKit

theorem bulk_pos {H : Type} (d : DataW H) : 1 ≤ Rows.uptoBulk d := by
  cases d <;> try (simp [Rows.uptoBulk]; done)
  rename_i l
  cases l <;> simp [Rows.uptoBulk]
theorem bulk_all {H : Type} : ∀ l : List (DataW H), l.length ≤ Rows.uptoBulkAll l
  | [] => by simp
  | d :: r => by
    have h1 := bulk_pos d
    have h2 := bulk_all r
    simp only [Rows.uptoBulkAll, List.length_cons]; omega
theorem arg_bulk {H : Type} {enc : TypeId × Value → H} {P : Program} {W : World} {v : V} {bs : List UInt8} {u : Value} {d : DataW H} {ps : List MemPlace} {t e : TypeId} (ht : P.underlying t = some (.slice e))
    (hd : DataW.Trod enc P W 0 (fun _ => true) true t u d ps) (hr : RelV (g0 W) v u) (hv : IsBytes v bs) : bs.length ≤ Rows.uptoBulk d := by
  obtain ⟨fuel, hd⟩ := hd
  obtain ⟨tk, rfl, _⟩ := hv
  have hu : u.cells = #[u] := by
    obtain ⟨_, h⟩ := id hr
    rcases h with ⟨_, _, _, rfl⟩ | ⟨_, b, p, cap, us, rfl, _⟩ | ⟨_, _, _, a, rfl⟩ <;> rfl
  rcases DataW.trod_slice ht hd with ⟨e1, e2⟩ | ⟨a, len, cap, elems, rest, n, _, e1, e2, _, _, _, hel, _⟩
  · rw [hu] at e1
    have e1 : u = .slice none 0 0 := by simpa using e1
    subst e1
    obtain ⟨_, h⟩ := hr
    rcases h with ⟨_, h, _⟩ | ⟨_, b, p, cap, us, h, _⟩ | h
    · omega
    · cases h
    · omega
  · rw [hu] at e1
    have e1 : u = .slice (some a) len cap := by simpa using e1
    subst e1
    have hb : len ≤ Rows.uptoBulk d := by
      have : d = .slice (elems.map (·.1)) (rest.map (·.1)) := congrArg Prod.fst e2
      rw [this]
      have := bulk_all (elems.map (·.1))
      rw [List.length_map, hel] at this
      simp only [Rows.uptoBulk]; omega
    obtain ⟨_, h⟩ := hr
    rcases h with ⟨_, h, _⟩ | ⟨_, b, p, cap', us, h, _⟩ | h
    · omega
    · injection h with h1 h2 h3; omega
    · omega

set_option maxRecDepth 100000 in
theorem walScansUpto_lifted (os : Os) (started : os.Started) (H : Type) (enc : TypeId × Value → H) (F : Stop.Interp) :
    ReturnsInHanded {} Try.checked os 10 .any ((Rows.OpenSpec.upto Rows.walScansSpec).pre6 enc Try.prog Try.f10 Rows.walScansUptoRow.domain false) (((Rows.OpenSpec.upto Rows.walScansSpec).at F).post enc Try.prog Try.f10 false true false false) := by
  refine returnsInHanded_of_calls (C := Try.checked) Try.own started (by kernel_rfl)
    (OpenSpec.witness (enc := enc) (C := Try.checked) (s := Rows.OpenSpec.upto Rows.walScansSpec) (k := Rows.uptoSmall) rfl false ⟨#[], #[.slice none 0 0], []⟩ 8 (by kernel_rfl) (by kernel_rfl) (by kernel_rfl) (x := ([.nil], [], [])) (by kernel_rfl) (by kernel_rfl) (by kernel_rfl)) ?_
  intro w tape i _ _ _ hok hpre hholds
  obtain ⟨_, _, _, fn', hfn', _, _, _, _, hval00⟩ := hok
  have e : fn' = Try.f10 := Option.some.inj (hfn'.symm.trans Try.func10)
  subst e
  obtain ⟨ds, gs, before, hw0', hc, hkk⟩ := (OpenSpec.pre_some (s := Rows.OpenSpec.upto Rows.walScansSpec) (k := Rows.uptoSmall) rfl _ _ _ _).1 hpre.1
  have hww := hpre.2.weights hw0'
  have hwh := DataW.Whole.of_heap (w' := w.forCall tape i) (by rfl) hw0'
  generalize hWW : w.forCall tape i = W at *
  generalize hAA : i.args = args at *
  have key : Calls Try.prog 10 args W fun e W' => ∃ v, e = .returned v ∧ ((Rows.OpenSpec.upto Rows.walScansSpec).at F).post enc Try.prog Try.f10 false true false false W args v W' := by
    have hval : ∀ (j : Nat) t v, Try.f10.params[j]? = some t → args[j]? = some v → Value.okWide Try.prog W .any w.heap.size t v := hval00
    have hW' := hwh
    obtain ⟨p, q, hA0, hV, rfl, hfz, hnd⟩ := hwh
    have hA : DataW.TrodAll enc Try.prog W 0 (fun _ => true) true Try.f10.params.toList args.toList ds p := hA0
    rw [Try.params10] at hA hval
    obtain ⟨v0, d0, rfl, rfl, h0⟩ := trodAll_one hA
    obtain ⟨rfl, rfl⟩ := trodVars_none hV
    have hw0 : (DataW.weightsEach Try.prog (Try.f10.params.toList ++ []) ([d0] ++ [])).all (· ≤ reachBytes) = true := hww
    rw [List.append_nil, List.append_nil, Try.params10] at hw0
    have hw' : ∀ n ∈ DataW.weightsEach Try.prog [24] [d0], n ≤ reachBytes := fun n hn => by
      have := List.all_eq_true.1 hw0 n hn
      simpa using this
    simp only [DataW.weightsEach, List.append_nil, List.mem_append] at hw'
    obtain ⟨a0, r0, t0⟩ := open_arg (P := Try.prog) (ty := (.slice 1 1 (.int .u8))) (by kernel_rfl) (hval 0 24 v0 rfl rfl) h0 hw'
    obtain ⟨bs, hbs, lbs⟩ := bytes_arg t0
    have hbulk : Rows.uptoBulk d0 ≤ 1048576 := by
      have := of_decide_eq_true hkk
      simpa [Rows.uptoBulkAll] using this
    obtain ⟨ee, hund⟩ : ∃ ee, Try.prog.underlying 24 = some (.slice ee) := ⟨_, rfl⟩
    have hlen : bs.length ≤ 10000000000000 := by
      have := arg_bulk (P := Try.prog) hund h0 r0 hbs
      omega
    refine (law_calls (P := Try.prog) (vs := [a0]) (us := [v0]) (walScans_runs hbs hlen fun _ => rfl) ⟨_, _, rfl, r0, rfl⟩).mono fun e W' ⟨he, hb⟩ => ⟨_, he, ?_⟩
    exact post_true Try.laidOut (tb := 4) (by kernel_rfl) (by kernel_rfl) (by kernel_rfl) rfl hW' rfl hb
  refine key.mono fun e W' ⟨v, he, hp⟩ => ?_
  subst he
  exact ChangeSpec.post_blind hp

theorem walScansUpto_holds : Rows.WalScansUptoSaid :=
  OpenClaim.holds_of_cond 10 Try.f10 rfl rfl rfl rfl rfl rfl rfl ⟨rfl, rfl, rfl, rfl, rfl⟩ rfl rfl rfl rfl rfl (by kernel_rfl) Try.func10 (by kernel_rfl)
    (of_decide_eq_true (by kernel_rfl)) (by unfold Func.isWrapper; first | (rw [if_pos (by decide +kernel)]; kernel_rfl) | (rw [if_neg (by decide +kernel)]; exact ⟨rfl, rfl⟩))
    (fun os started H enc _ F => walScansUpto_lifted os started H enc F)
#print axioms walScansUpto_holds
end Go.Proofs.Ytddjanglghgoeaa
