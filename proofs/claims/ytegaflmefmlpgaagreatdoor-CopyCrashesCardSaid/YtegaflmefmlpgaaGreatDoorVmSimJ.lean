/-
  The value machine: every operation that changes nothing: the model tells what the value machine tells, and the world is as it was.
-/
import Derived.Test.YtegaflmefmlpgaaGreatDoorVmSimI
set_option linter.unusedVariables false
set_option linter.unusedSimpArgs false
namespace Go.VM
open Go Go.RowKit

section
variable {P : Program} {w0 w : World} {g : G} {S : St} {n : Nat} {fr : Fr} {a : Act}

theorem eqGuard_run (q : BinOp) (t : TypeId) (x y : Operand) {u u' : Value} (h1 : ¬ (u = .nilIface ∧ u' = .nilIface)) (h2 : ∀ cs us, ¬ (u = .agg cs ∧ u' = .agg us)) (w : World) : (eqGuard q t x y u u').run P w = .ok () w := by
  unfold eqGuard
  cases q <;> (try rfl)
  all_goals
    simp only [Bool.not_true, Bool.false_eq_true, if_false]
    split
    · exact absurd ⟨rfl, rfl⟩ h1
    · exact absurd ⟨rfl, rfl⟩ (h2 _ _)
    · rfl

theorem simFI (hW : RelW w0 g S w) (hF : RelF g n fr a.tmps) {o : Oper} {i : FI} (hc : chkFI P n o.op i = true) {v : V} (hv : aF i fr S = some v) :
    ∃ u, (execOp a.eval o).run P w = .ok (.value u) w ∧ RelV g v u := by
  cases i with
  | mv y =>
    simp only [chkFI] at hc
    simp only [aF] at hv
    injection hv with hv; subst hv
    split at hc
    · rename_i x ho
      exact ⟨_, by simp [execOp, ho], chkA_rel hF hc⟩
    · rename_i x ho
      exact ⟨_, by simp [execOp, ho], chkA_rel hF hc⟩
    · cases hc
  | pick c' a' b' =>
    simp only [chkFI] at hc
    split at hc
    · rename_i c x y ho
      simp only [Bool.and_eq_true] at hc
      obtain ⟨⟨h1, h2⟩, h3⟩ := hc
      have k := chkA_rel hF h1
      simp only [aF] at hv
      split at hv
      · rename_i he
        injection hv with hv; subst hv
        rw [he] at k
        exact ⟨_, by simp [execOp, ho, rel_bool k, asBool], chkA_rel hF h2⟩
      · rename_i he
        injection hv with hv; subst hv
        rw [he] at k
        exact ⟨_, by simp [execOp, ho, rel_bool k, asBool], chkA_rel hF h3⟩
      · cases hv
    · cases hc
  | nilCheck y =>
    simp only [chkFI] at hc
    split at hc
    · rename_i x ho
      have k := chkA_rel hF hc
      simp only [aF] at hv
      split at hv
      · rename_i p he
        injection hv with hv; subst hv
        rw [he] at k
        obtain ⟨i, q⟩ := p
        obtain ⟨k1, k2⟩ := k
        exact ⟨_, by simp [execOp, ho, k2], k1, rfl⟩
      · rename_i cs he
        injection hv with hv; subst hv
        rw [he] at k
        have k' := k
        obtain ⟨b, p, us, e, _⟩ := k
        exact ⟨.pointer (some ⟨b, p, none⟩), by simp [execOp, ho, e], by rw [← e]; exact k'⟩
      · cases hv
    · cases hc
  | bin op' x' y' =>
    simp only [chkFI] at hc
    split at hc
    · rename_i op t x y t' ho
      simp only [Bool.and_eq_true, decide_eq_true_eq] at hc
      obtain ⟨⟨rfl, h1⟩, h2⟩ := hc
      obtain ⟨r, e, k⟩ := simBin (P := P) (w := w) (chkA_rel hF h1) (chkA_rel hF h2) hv t x y
      refine ⟨r, ?_, k⟩
      simp only [execOp, ho]
      rw [Sem.run_bind, e]
      rfl
    · cases hc
  | eq neg k x' y' =>
    simp only [chkFI] at hc
    split at hc
    · rename_i op t x y t' ho
      simp only [Bool.and_eq_true] at hc
      obtain ⟨⟨⟨h0, h1⟩, h2⟩, h3⟩ := hc
      simp only [aF] at hv
      obtain ⟨b, hb, rfl⟩ := Option.map_eq_some_iff.1 hv
      have e := simEq (P := P) (w := w) h3 (chkA_rel hF h1) (chkA_rel hF h2) hb 9999
      refine ⟨.bool (if neg then !b else b), ?_, rfl⟩
      have hnoagg : ∀ cs us, a.eval x = .agg cs → a.eval y = .agg us → False := by
        intro cs us e1 e2
        have kx := chkA_rel hF h1
        rw [e1] at kx
        unfold V.eq at hb
        split at hb <;> rename_i hxe hye <;> first | (rw [hxe] at kx; simp [RelV] at kx; done) | cases hb
      have hg : ∀ q, (eqGuard q t x y (a.eval x) (a.eval y)).run P w = .ok () w := by
        intro q
        refine eqGuard_run q t x y ?_ ?_ w
        · rintro ⟨e1, e2⟩
          have kx := chkA_rel hF h1
          have ky := chkA_rel hF h2
          rw [e1] at kx; rw [e2] at ky
          unfold V.eq at hb
          split at hb <;> rename_i hxe hye <;> first | (rw [hxe] at kx; simp [RelV] at kx; done) | (rw [hye] at ky; simp [RelV] at ky; done) | cases hb
        · rintro cs us ⟨e1, e2⟩
          exact hnoagg _ _ e1 e2
      cases op <;> simp only [] at h0 <;> (try (cases h0; done))
      · simp at h0; subst h0
        simp only [execOp, ho, Sem.run_bind, hg, Result.andThen_ok]
        have hbin : (Go.binOp .eql t (a.eval x) (a.eval y)) = (do pure (.bool (← Op.equal t (a.eval x) (a.eval y)))) := by
          have kx := chkA_rel hF h1
          unfold V.eq at hb
          split at hb <;> rename_i hxe hye <;> (try (cases hb; done)) <;> rw [hxe] at kx <;>
            first
              | (rw [rel_bool kx]; rfl)
              | (obtain ⟨q, kx', _⟩ := rel_ptr kx; rw [kx']; rfl)
              | (obtain ⟨q, kx'⟩ := rel_eptr kx; rw [kx']; rfl)
              | (obtain ⟨q, c, kx', _⟩ := rel_sl kx; rw [kx']; rfl)
              | (obtain ⟨q, c, kx'⟩ := rel_msl kx; rw [kx']; rfl)
              | (obtain ⟨q, kx', _⟩ := rel_map kx; rw [kx']; rfl)
              | (obtain ⟨_, _, _, kx'⟩ := rel_func kx; rw [kx']; rfl)
              | (obtain ⟨_, kx', _⟩ := rel_iface kx; rw [kx']; rfl)
              | (have kx' : a.eval x = .nilFunc := kx; rw [kx']; rfl)
              | (have kx' : a.eval x = .nilIface := kx; rw [kx']; rfl)
        rw [hbin]
        simp [Op.equal, Op.maxDepth, e]
      · subst h0
        simp only [execOp, ho, Sem.run_bind, hg, Result.andThen_ok]
        have hbin : (Go.binOp .neq t (a.eval x) (a.eval y)) = (do pure (.bool (!(← Op.equal t (a.eval x) (a.eval y))))) := by
          have kx := chkA_rel hF h1
          unfold V.eq at hb
          split at hb <;> rename_i hxe hye <;> (try (cases hb; done)) <;> rw [hxe] at kx <;>
            first
              | (rw [rel_bool kx]; rfl)
              | (obtain ⟨q, kx', _⟩ := rel_ptr kx; rw [kx']; rfl)
              | (obtain ⟨q, kx'⟩ := rel_eptr kx; rw [kx']; rfl)
              | (obtain ⟨q, c, kx', _⟩ := rel_sl kx; rw [kx']; rfl)
              | (obtain ⟨q, c, kx'⟩ := rel_msl kx; rw [kx']; rfl)
              | (obtain ⟨q, kx', _⟩ := rel_map kx; rw [kx']; rfl)
              | (obtain ⟨_, _, _, kx'⟩ := rel_func kx; rw [kx']; rfl)
              | (obtain ⟨_, kx', _⟩ := rel_iface kx; rw [kx']; rfl)
              | (have kx' : a.eval x = .nilFunc := kx; rw [kx']; rfl)
              | (have kx' : a.eval x = .nilIface := kx; rw [kx']; rfl)
        rw [hbin]
        simp [Op.equal, Op.maxDepth, e]
    · cases hc
  | eqA neg m x' y' =>
    simp only [chkFI] at hc
    split at hc
    · rename_i op t x y t' ho
      simp only [Bool.and_eq_true] at hc
      obtain ⟨⟨⟨h0, h1⟩, h2⟩, h3⟩ := hc
      simp only [aF] at hv
      obtain ⟨b, hb, rfl⟩ := Option.map_eq_some_iff.1 hv
      obtain ⟨r, e, k⟩ := simEqA (P := P) (w := w) h3 (chkA_rel hF h1) (chkA_rel hF h2) hb neg op h0 x y
      refine ⟨r, ?_, k⟩
      simp only [execOp, ho]
      rw [Sem.run_bind, e]
      rfl
    · cases hc
  | un op' x' =>
    simp only [chkFI] at hc
    split at hc
    · rename_i op t x ho
      simp only [Bool.and_eq_true, decide_eq_true_eq] at hc
      obtain ⟨rfl, h1⟩ := hc
      obtain ⟨r, e, k⟩ := simUn (P := P) (w := w) (chkA_rel hF h1) hv
      exact ⟨r, by simp [execOp, ho, e], k⟩
    · cases hc
  | conv c x' =>
    simp only [chkFI] at hc
    split at hc
    · rename_i src dst x ho
      simp only [Bool.and_eq_true] at hc
      obtain ⟨r, e, k⟩ := simConv (P := P) hW (chkA_rel hF hc.1) hv hc.2
      exact ⟨r, by simp [execOp, ho, e], k⟩
    · cases hc
  | fieldAddr off x' =>
    simp only [chkFI] at hc
    split at hc
    · rename_i s x f ho
      simp only [Bool.and_eq_true] at hc
      obtain ⟨h1, h2⟩ := hc
      split at h2 <;> (try (cases h2; done))
      rename_i fields hs
      split at h2 <;> (try (cases h2; done))
      rename_i fd hfd
      simp only [Bool.and_eq_true, decide_eq_true_eq] at h2
      obtain ⟨rfl, h3⟩ := h2
      split at h3 <;> (try (cases h3; done))
      rename_i z hz
      have hz0 := of_decide_eq_true h3
      have k := chkA_rel hF h1
      simp only [aF] at hv
      split at hv
      · rename_i i q he
        injection hv with hv; subst hv
        rw [he] at k
        obtain ⟨k1, k2⟩ := k
        refine ⟨.pointer (some ⟨(g.loc i).1, (g.loc i).2 + (q + fd.offset), none⟩), ?_, k1, rfl⟩
        simp [execOp, ho, k2, Instr.fieldAt, run_underlying hs, hfd, Instr.sureAddr, fieldPlace, szOf_run hz, hz0, add_at, Nat.add_assoc]
      · rename_i cs he
        injection hv with hv; subst hv
        rw [he] at k
        obtain ⟨b, p, us, e, r, on, ic⟩ := k
        refine ⟨.pointer (some ⟨b, p + fd.offset, none⟩), ?_, b, p + fd.offset, us.drop fd.offset, rfl, r.drop _, on.drop _, ic.drop _⟩
        simp [execOp, ho, e, Instr.fieldAt, run_underlying hs, hfd, Instr.sureAddr, fieldPlace, szOf_run hz, hz0, add_at]
      · cases hv
    · cases hc
  | field agg off sz x' =>
    simp only [chkFI] at hc
    split at hc
    · rename_i t x f ho
      simp only [Bool.and_eq_true] at hc
      obtain ⟨h1, h2⟩ := hc
      split at h2 <;> (try (cases h2; done))
      rename_i fields hs
      split at h2 <;> (try (cases h2; done))
      rename_i fd hfd
      simp only [Bool.and_eq_true, decide_eq_true_eq] at h2
      obtain ⟨⟨rfl, h3⟩, h4⟩ := h2
      have k := chkA_rel hF h1
      simp only [aF] at hv
      split at hv
      · rename_i cs he
        rw [he] at k
        obtain ⟨us, e, r, on⟩ := k
        obtain ⟨u, eu, ku⟩ := part_rel (P := P) (w := w) r on h4 h3 hv
        exact ⟨u, by simp [execOp, ho, e, Instr.field, run_underlying hs, hfd, asAgg, eu], ku⟩
      · cases hv
    · cases hc
  | indexAddr sz x' i' =>
    simp only [chkFI] at hc
    split at hc
    · rename_i t x i ho
      simp only [Bool.and_eq_true] at hc
      obtain ⟨⟨h1, h2⟩, h3⟩ := hc
      split at h3 <;> (try (cases h3; done))
      rename_i e ht
      have hs := of_decide_eq_true h3
      have k := chkA_rel hF h1
      simp only [aF] at hv
      split at hv
      · rename_i cs m sz' tk j he hj
        split at hv
        · rename_i hcond
          obtain ⟨hjm, rfl, htk⟩ := hcond
          injection hv with hv; subst hv
          obtain ⟨kd, hu⟩ := idx_rel (chkA_rel hF h2) hj
          rw [he] at k
          obtain ⟨hlen, k⟩ := k
          rcases k with ⟨h', _⟩ | ⟨_, b, p, cap, us, e', hcp, r, on, ic, _⟩ | ⟨_, h0, _⟩
          · exact absurd h' htk
          rotate_left
          · omega
          refine ⟨.pointer (some ⟨b, p + j * sz', none⟩), ?_, b, p + j * sz', us.drop (j * sz'), rfl, r.drop _, on.drop _, ic.drop _⟩
          have hlt : (0 : Int) ≤ j ∧ (j : Int) < m := by omega
          simp [execOp, ho, e', hu, Instr.indexAt, run_underlying ht, asIntOf, szOf_run hs, add_at, hjm]
        · cases hv
      · rename_i q off m sz' j he hj
        split at hv
        · rename_i hcond
          obtain ⟨hjm, rfl⟩ := hcond
          injection hv with hv; subst hv
          obtain ⟨kd, hu⟩ := idx_rel (chkA_rel hF h2) hj
          rw [he] at k
          obtain ⟨k1, cap, e', _⟩ := k
          refine ⟨.pointer (some ⟨(g.loc q).1, (g.loc q).2 + (off + j * sz'), none⟩), ?_, k1, rfl⟩
          simp [execOp, ho, e', hu, Instr.indexAt, run_underlying ht, asIntOf, szOf_run hs, add_at, hjm, Nat.add_assoc]
        · cases hv
      · cases hv
    · cases hc
  | indexAddrA len sz x' i' =>
    simp only [chkFI] at hc
    split at hc
    · rename_i t x i ho
      simp only [Bool.and_eq_true] at hc
      obtain ⟨⟨h1, h2⟩, h3⟩ := hc
      split at h3 <;> (try (cases h3; done))
      rename_i len' e ht
      simp only [Bool.and_eq_true, decide_eq_true_eq] at h3
      obtain ⟨rfl, hs⟩ := h3
      have k := chkA_rel hF h1
      simp only [aF] at hv
      split at hv
      · rename_i q off j he hj
        split at hv
        · rename_i hjm
          injection hv with hv; subst hv
          obtain ⟨kd, hu⟩ := idx_rel (chkA_rel hF h2) hj
          rw [he] at k
          obtain ⟨k1, e'⟩ := k
          refine ⟨.pointer (some ⟨(g.loc q).1, (g.loc q).2 + (off + j * sz), none⟩), ?_, k1, rfl⟩
          simp [execOp, ho, e', hu, Instr.indexAt, run_underlying ht, asIntOf, szOf_run hs, add_at, hjm, Instr.sureAddr, Nat.add_assoc]
        · cases hv
      · rename_i cs j he hj
        split at hv
        · rename_i hjm
          injection hv with hv; subst hv
          obtain ⟨kd, hu⟩ := idx_rel (chkA_rel hF h2) hj
          rw [he] at k
          obtain ⟨b, p, us, e', r, on, ic⟩ := k
          refine ⟨.pointer (some ⟨b, p + j * sz, none⟩), ?_, b, p + j * sz, us.drop (j * sz), rfl, r.drop _, on.drop _, ic.drop _⟩
          simp [execOp, ho, e', hu, Instr.indexAt, run_underlying ht, asIntOf, szOf_run hs, add_at, hjm, Instr.sureAddr]
        · cases hv
      · cases hv
    · cases hc
  | indexS x' i' =>
    simp only [chkFI] at hc
    split at hc
    · rename_i t x i ho
      simp only [Bool.and_eq_true] at hc
      obtain ⟨⟨h1, h2⟩, h3⟩ := hc
      split at h3 <;> (try (cases h3; done))
      rename_i ht
      have k := chkA_rel hF h1
      simp only [aF] at hv
      split at hv
      · rename_i s j he hj
        obtain ⟨b, hb, rfl⟩ := Option.map_eq_some_iff.1 hv
        obtain ⟨kd, hu⟩ := idx_rel (chkA_rel hF h2) hj
        rw [he] at k
        refine ⟨.int .u8 b.toNat, ?_, rfl⟩
        simp [execOp, ho, rel_str k, hu, Instr.index, run_underlying ht, asIntOf, hb]
      · cases hv
    · cases hc
  | indexA agg len sz x' i' =>
    simp only [chkFI] at hc
    split at hc
    · rename_i t x i ho
      simp only [Bool.and_eq_true] at hc
      obtain ⟨⟨h1, h2⟩, h3⟩ := hc
      split at h3 <;> (try (cases h3; done))
      rename_i len' e ht
      simp only [Bool.and_eq_true, decide_eq_true_eq] at h3
      obtain ⟨⟨rfl, hs⟩, ha⟩ := h3
      have k := chkA_rel hF h1
      simp only [aF] at hv
      split at hv
      · rename_i cs j he hj
        split at hv
        · rename_i hjm
          obtain ⟨kd, hu⟩ := idx_rel (chkA_rel hF h2) hj
          rw [he] at k
          obtain ⟨us, e', r, on⟩ := k
          obtain ⟨u, eu, ku⟩ := part_rel (P := P) (w := w) r on ha hs hv
          refine ⟨u, ?_, ku⟩
          simp [execOp, ho, e', hu, Instr.index, run_underlying ht, asIntOf, szOf_run hs, hjm, eu]
        · cases hv
      · cases hv
    · cases hc
  | load agg sz x' =>
    simp only [chkFI] at hc
    split at hc
    · rename_i t x ho
      simp only [Bool.and_eq_true, decide_eq_true_eq] at hc
      obtain ⟨⟨h1, hs⟩, ha⟩ := hc
      have k := chkA_rel hF h1
      simp only [aF] at hv
      split at hv
      · rename_i i off he
        obtain ⟨cs, hcs, hv⟩ := Option.bind_eq_some_iff.1 hv
        rw [he] at k
        obtain ⟨k1, e⟩ := k
        obtain ⟨xs, r, on, rd⟩ := hW.cells hcs
        obtain ⟨u, eu, ku⟩ := run_loadVar_reads (P := P) ha hs (r.drop off) (on.drop off) (rd.drop off) hv
        exact ⟨u, by simp [execOp, ho, e, Instr.loadAt, Instr.sureAddr, eu], ku⟩
      · rename_i cs he
        rw [he] at k
        obtain ⟨b, p, us, e, r, on, ic⟩ := k
        obtain ⟨u, eu, ku⟩ := run_loadVar_reads (P := P) ha hs r on (hW.reads ic) hv
        exact ⟨u, by simp [execOp, ho, e, Instr.loadAt, Instr.sureAddr, eu], ku⟩
      · cases hv
    · cases hc
  | len lk x' =>
    simp only [chkFI] at hc
    split at hc
    · rename_i xs ts ho
      split at hc <;> (try (cases hc; done))
      rename_i x t hxs hts
      simp only [Bool.and_eq_true] at hc
      obtain ⟨h1, h2⟩ := hc
      have k := chkA_rel hF h1
      have exs : xs = #[x] := Array.toList_inj.1 hxs
      have ets : ts = #[t] := Array.toList_inj.1 hts
      subst exs; subst ets
      have hex : ∀ u, (Builtin.len_ #[t] o.type #[a.eval x]).run P w = .ok u w → (execOp a.eval o).run P w = .ok (.value u) w := fun u hu => by
        simp [execOp, ho, resolve, invoke, builtin, hu]
      split at h2 <;> (try (cases h2; done))
      · rename_i ht
        simp only [aF] at hv
        split at hv <;> (try (cases hv; done))
        rename_i s he
        injection hv with hv; subst hv
        rw [he] at k
        exact ⟨_, hex _ (by simp [Builtin.len_, goInt, run_underlying ht, rel_str k]), rfl⟩
      · rename_i ht
        simp only [aF] at hv
        split at hv <;> (try (cases hv; done))
        · rename_i cs m sz tk he
          injection hv with hv; subst hv
          rw [he] at k
          obtain ⟨q, c, e, _⟩ := rel_sl k
          exact ⟨_, hex _ (by simp [Builtin.len_, goInt, run_underlying ht, e]), rfl⟩
        · rename_i q off m sz he
          injection hv with hv; subst hv
          rw [he] at k
          obtain ⟨q, c, e⟩ := rel_msl k
          exact ⟨_, hex _ (by simp [Builtin.len_, goInt, run_underlying ht, e]), rfl⟩
      · rename_i ht
        simp only [aF] at hv
        split at hv <;> (try (cases hv; done))
        · rename_i he
          injection hv with hv; subst hv
          rw [he] at k
          have e : a.eval x = .map none := k
          exact ⟨_, hex _ (by simp [Builtin.len_, goInt, run_underlying ht, e]), rfl⟩
        · rename_i r he
          split at hv <;> (try (cases hv; done))
          rename_i es c hes
          injection hv with hv; subst hv
          rw [he] at k
          obtain ⟨k1, e⟩ := k
          obtain ⟨ms, hms, hm⟩ := hW.map hes
          refine ⟨.int .i64 ms.size, hex _ (by simp [Builtin.len_, goInt, run_underlying ht, e, run_getMap hms]), ?_⟩
          rw [hm.1]
          simp [RelV]
    · cases hc
  | sliceS x' lo' hi' =>
    simp only [chkFI] at hc
    split at hc
    · rename_i t x lo hi ho
      simp only [Bool.and_eq_true] at hc
      obtain ⟨⟨⟨h1, h2⟩, h3⟩, h4⟩ := hc
      split at h4 <;> (try (cases h4; done))
      rename_i ht
      have k := chkA_rel hF h1
      simp only [aF] at hv
      split at hv <;> (try (cases hv; done))
      rename_i s he
      obtain ⟨q, hq, rfl⟩ := Option.map_eq_some_iff.1 hv
      rw [he] at k
      obtain ⟨b1, b2, hb⟩ := bounds_rel (P := P) (w := w) hF h2 h3 (Nat.le_refl _) hq false
      refine ⟨.string (s.extract q.1 q.2), ?_, rfl⟩
      simp [execOp, ho, rel_str k, Instr.sliceAt, Instr.slice, run_underlying ht, hb]
    · cases hc
  | slice sz x' lo' hi' mx' =>
    simp only [chkFI] at hc
    split at hc
    · rename_i t x lo hi mx ho
      simp only [Bool.and_eq_true] at hc
      obtain ⟨⟨⟨⟨⟨h1, h2⟩, h3⟩, h4⟩, h5⟩, h6⟩ := hc
      split at h6 <;> (try (cases h6; done))
      rename_i e ht
      have hs := of_decide_eq_true h6
      simp only [aF] at hv
      obtain ⟨r, er, kr⟩ := simSlice (P := P) hW hF ht hs h1 h2 h3 h4 h5 hv
      exact ⟨r, by simp [execOp, ho, er], kr⟩
    · cases hc
  | build zero parts =>
    simp only [chkFI] at hc
    split at hc
    · rename_i t ps ho
      simp only [Bool.and_eq_true] at hc
      obtain ⟨h1, h2⟩ := hc
      obtain ⟨z, ez, rz, oz⟩ := zero_run (P := P) (g := g) h1 w
      simp only [aF] at hv
      obtain ⟨cs, hcs, rfl⟩ := Option.map_eq_some_iff.1 hv
      split at h2 <;> (try (cases h2; done))
      · rename_i fields ht
        simp only [Bool.and_eq_true] at h2
        obtain ⟨h3, h4⟩ := h2
        obtain ⟨us, e, r, on⟩ := fill_rel hF h4 hcs rz oz
        refine ⟨.agg us, ?_, us.toList, by simp, r, on⟩
        have hmap : (fields.mapM (m := Sem) fun f => do pure (f.offset, ← Go.sizeOf f.type)).run P w = .ok (fields.toList.map fun f => (f.offset, (szOf P f.type).getD 0)).toArray w := by
          rw [← Array.toArray_toList (xs := fields)]
          simp only [List.mapM_toArray, Sem.run_map]
          rw [mapM_places h3]
          simp
        have hpl : (fun i => (fields.toList.map fun f => (f.offset, (szOf P f.type).getD 0)).toArray[i]?) = fieldPlaces P fields := by
          funext i
          simp only [List.getElem?_toArray, List.getElem?_map, Array.getElem?_toList, fieldPlaces]
          cases hfi : fields[i]? with
          | none => rfl
          | some f =>
            have hmem : f ∈ fields.toList := List.mem_of_getElem? (by rw [Array.getElem?_toList]; exact hfi)
            obtain ⟨s, hs⟩ := Option.isSome_iff_exists.1 (List.all_eq_true.1 h3 f hmem)
            simp [hs]
        simp only [execOp, ho, Instr.build, Sem.run_bind, ez, Result.andThen_ok, run_underlying ht, hmap, hpl, Array.toList_map, e]
        rfl
      · rename_i m e ht
        split at h2 <;> (try (cases h2; done))
        rename_i s hs
        obtain ⟨us, e', r, on⟩ := fill_rel hF h2 hcs rz oz
        refine ⟨.agg us, ?_, us.toList, by simp, r, on⟩
        simp only [execOp, ho, Instr.build, Sem.run_bind, ez, Result.andThen_ok, run_underlying ht, szOf_run hs, Array.toList_map, e']
        rfl
    · cases hc
  | mkIface t' x' =>
    simp only [chkFI] at hc
    split at hc
    · rename_i t x ho
      simp only [Bool.and_eq_true, decide_eq_true_eq] at hc
      obtain ⟨⟨rfl, h1⟩, h2⟩ := hc
      simp only [aF] at hv
      injection hv with hv; subst hv
      split at h2 <;> (try (cases h2; done))
      rename_i d hni ht
      refine ⟨.iface t (a.eval x), ?_, _, rfl, chkA_rel hF h1⟩
      simp only [execOp, ho, Instr.makeInterface, Sem.run_bind, run_underlying ht, Result.andThen_ok]
      first
        | rfl
        | (split
           · rename_i q; exact absurd rfl (hni _)
           · rfl)
    · cases hc
  | mkFunc f' pre' cap' =>
    simp only [chkFI] at hc
    split at hc
    · rename_i f pre cap ho
      simp only [Bool.and_eq_true, decide_eq_true_eq] at hc
      obtain ⟨⟨rfl, h1⟩, h2⟩ := hc
      simp only [aF] at hv
      injection hv with hv; subst hv
      have hm : ∀ xs : Array Operand, xs.map a.eval = (xs.toList.map a.eval).toArray := fun xs => by rw [← Array.toList_map, Array.toArray_toList]
      exact ⟨.func (.func f) (pre.map a.eval) (cap.map a.eval), by simp [execOp, ho, Instr.makeFunc], pre.toList.map a.eval, cap.toList.map a.eval, by rw [← hm, ← hm], chkAs_rel hF h1, chkAs_rel hF h2⟩
    · cases hc
  | extract x' i' =>
    simp only [chkFI] at hc
    split at hc
    · rename_i x i ho
      simp only [Bool.and_eq_true, decide_eq_true_eq] at hc
      obtain ⟨rfl, h1⟩ := hc
      have k := chkA_rel hF h1
      simp only [aF] at hv
      split at hv <;> (try (cases hv; done))
      rename_i vs he
      rw [he] at k
      obtain ⟨us, e, r⟩ := k
      obtain ⟨u, hu, ku⟩ := r.at_ hv
      exact ⟨u, by simp [execOp, ho, e, Instr.extract, hu], ku⟩
    · cases hc
  | lookup kk ok' zero m' k' =>
    simp only [chkFI] at hc
    split at hc
    · rename_i t m kx ok ho
      simp only [Bool.and_eq_true, decide_eq_true_eq] at hc
      obtain ⟨⟨⟨rfl, h1⟩, h2⟩, h3⟩ := hc
      split at h3 <;> (try (cases h3; done))
      rename_i kt et ht
      simp only [Bool.and_eq_true] at h3
      obtain ⟨h4, h5⟩ := h3
      obtain ⟨z, ez, kz⟩ := zeroV_run (P := P) (g := g) h5 w
      have k := chkA_rel hF h1
      have kk2 := chkA_rel hF h2
      simp only [aF] at hv
      split at hv <;> (try (cases hv; done))
      · rename_i he
        split at hv <;> (try (cases hv; done))
        injection hv with hv; subst hv
        rw [he] at k
        have e : a.eval m = .map none := k
        have hkd : ∃ d, P.underlying kt = some d := by
          unfold keyKind at h4
          split at h4 <;> first | exact ⟨_, by assumption⟩ | cases h4
        obtain ⟨d, hd⟩ := hkd
        have hfk : (Instr.findKey kt (a.eval kx) []).run P w = .ok none w := by simp [Instr.findKey, run_underlying hd, Instr.findNow]
        have hck := checkKey_run (P := P) h4 true 9999 (a.eval kx) w
        refine ⟨if ok then .tuple #[z, .bool false] else z, ?_, ?_⟩
        · simp [execOp, ho, e, Instr.lookup, run_underlying ht, hck, hfk, ez]
        · cases ok with
          | true => exact ⟨[z, .bool false], rfl, z, _, rfl, kz, _, _, rfl, rfl, rfl⟩
          | false => exact kz
      · rename_i r he
        split at hv <;> (try (cases hv; done))
        rename_i es c hes
        split at hv <;> (try (cases hv; done))
        obtain ⟨fr', hfr, hv⟩ := Option.map_eq_some_iff.1 hv
        rw [he] at k
        obtain ⟨k1, e⟩ := k
        obtain ⟨ms, hms, hm⟩ := hW.map hes
        obtain ⟨r', er, hr⟩ := findKey_rel (P := P) h4 kk2 hm hfr w
        have hck := checkKey_run (P := P) h4 ms.isEmpty 9999 (a.eval kx) w
        cases fr' with
        | none =>
          cases r' with
          | some _ => exact hr.elim
          | none =>
            subst hv
            refine ⟨if ok then .tuple #[z, .bool false] else z, ?_, ?_⟩
            · simp [execOp, ho, e, Instr.lookup, run_underlying ht, run_getMap hms, hck, er, ez]
            · cases ok with
              | true => exact ⟨[z, .bool false], rfl, z, _, rfl, kz, _, _, rfl, rfl, rfl⟩
              | false => exact kz
        | some q =>
          cases r' with
          | none => exact hr.elim
          | some q' =>
            obtain ⟨j, v1⟩ := q
            obtain ⟨j', u1⟩ := q'
            obtain ⟨_, _, k3, _⟩ := hr
            subst hv
            refine ⟨if ok then .tuple #[u1, .bool true] else u1, ?_, ?_⟩
            · simp [execOp, ho, e, Instr.lookup, run_underlying ht, run_getMap hms, hck, er]
            · cases ok with
              | true => exact ⟨[u1, .bool true], rfl, u1, _, rfl, k3, _, _, rfl, rfl, rfl⟩
              | false => exact k3
    · cases hc
  | assertT t' ok' zero x' =>
    simp only [chkFI] at hc
    split at hc
    · rename_i x xt t ok ho
      simp only [Bool.and_eq_true, decide_eq_true_eq] at hc
      obtain ⟨⟨⟨⟨rfl, rfl⟩, h1⟩, h2⟩, h3⟩ := hc
      obtain ⟨z, ez, kz⟩ := zeroV_run (P := P) (g := g) h2 w
      have k := chkA_rel hF h1
      split at h3 <;> (try (cases h3; done))
      rename_i d hni ht
      simp only [aF] at hv
      split at hv <;> (try (cases hv; done))
      · rename_i t1 v1 he
        rw [he] at k
        obtain ⟨u1, e, k1⟩ := k
        split at hv
        · rename_i htt
          subst htt
          injection hv with hv; subst hv
          refine ⟨if ok then .tuple #[u1, .bool true] else u1, ?_, ?_⟩
          · cases d <;> first | exact absurd rfl (hni _) | simp [execOp, ho, Instr.typeAssert, run_underlying ht, e]
          · cases ok with
            | true => exact ⟨[u1, .bool true], rfl, u1, _, rfl, k1, _, _, rfl, rfl, rfl⟩
            | false => exact k1
        · rename_i htt
          split at hv <;> (try (cases hv; done))
          rename_i hok
          injection hv with hv; subst hv
          subst hok
          refine ⟨.tuple #[z, .bool false], ?_, [z, .bool false], rfl, z, _, rfl, kz, _, _, rfl, rfl, rfl⟩
          cases d <;> first | exact absurd rfl (hni _) | simp [execOp, ho, Instr.typeAssert, run_underlying ht, e, htt, ez]
      · rename_i he
        split at hv <;> (try (cases hv; done))
        rename_i hok
        injection hv with hv; subst hv
        subst hok
        rw [he] at k
        have e : a.eval x = .nilIface := k
        refine ⟨.tuple #[z, .bool false], ?_, [z, .bool false], rfl, z, _, rfl, kz, _, _, rfl, rfl, rfl⟩
        cases d <;> first | exact absurd rfl (hni _) | simp [execOp, ho, Instr.typeAssert, run_underlying ht, e, ez]
    · cases hc
  | minmax isMax xs' =>
    simp only [chkFI] at hc
    split at hc
    · rename_i b xs ts ho
      simp only [Bool.and_eq_true] at hc
      obtain ⟨h1, h2⟩ := hc
      have kl := chkAs_rel hF h2
      simp only [aF] at hv
      split at hv <;> (try (cases hv; done))
      rename_i x1 xr
      obtain ⟨u1, ur, eus, k1, kr⟩ := kl
      obtain ⟨r, er, kz⟩ := minmaxL_rel (P := P) (w := w) k1 kr hv
      have exs : (xs.map a.eval).toList = u1 :: ur := by simpa using eus
      refine ⟨r, ?_, kz⟩
      cases b <;> simp only [] at h1 <;> (try (cases h1; done))
      · subst h1
        simp only [execOp, ho, resolve, invoke, builtin, Sem.run_bind, Sem.run_pure, Result.andThen_ok, Builtin.max_, exs]
        rw [show (if true = true then Builtin.max2 else Builtin.min2) = Builtin.max2 from rfl] at er
        rw [er]; rfl
      · have : isMax = false := by simpa using h1
        subst this
        simp only [execOp, ho, resolve, invoke, builtin, Sem.run_bind, Sem.run_pure, Result.andThen_ok, Builtin.min_, exs]
        rw [show (if false = true then Builtin.max2 else Builtin.min2) = Builtin.min2 from rfl] at er
        rw [er]; rfl
    · cases hc
end
end Go.VM
