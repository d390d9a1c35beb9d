/-
  Parts: VmSimJ, VmEI, VmSimE.
-/
import Derived.Test.YthpiomallkidlaaGreatDoorJ01
set_option linter.unusedVariables false
set_option linter.unusedSimpArgs false
namespace Go.VM
open Go Go.RowKit
section
variable {P : Program} {w0 w : World} {g : G} {S : St} {n : Nat} {fr : Fr} {a : Act}
theorem eqGuard_run (q : BinOp) (t : TypeId) (x y : Operand) {u u' : Value} (h1 : ¬ (u = .nilIface ∧ u' = .nilIface)) (h2 : ∀ cs us, ¬ (u = .agg cs ∧ u' = .agg us)) (w : World) : (eqGuard q t x y u u').run P w = .ok () w := by
 unfold eqGuard
 cases q <;> (try rfl)
 all_goals
  simp only [Bool.not_true, Bool.false_eq_true, if_false]
  split
  ·exact absurd ⟨rfl, rfl⟩ h1
  ·exact absurd ⟨rfl, rfl⟩ (h2 _ _)
  ·rfl
theorem simFI (hW : RelW w0 g S w) (hF : RelF g n fr a.tmps) {o : Oper} {i : FI} (hc : chkFI P n o.op i = true) {v : V} (hv : aF i fr S = some v) :
    ∃ u, (execOp a.eval o).run P w = .ok (.value u) w ∧ RelV g v u := by
  cases i with
  | mv y =>
    simp only [chkFI] at hc
    simp only [aF] at hv
    injection hv with hv; subst hv
    split at hc
    · rename_i x ho
      exact ⟨_, by simp [execOp, ho], chkA_rel hF hc⟩
    · rename_i x ho
      exact ⟨_, by simp [execOp, ho], chkA_rel hF hc⟩
    · cases hc
  | pick c' a' b' =>
    simp only [chkFI] at hc
    split at hc
    · rename_i c x y ho
      simp only [Bool.and_eq_true] at hc
      obtain ⟨⟨h1, h2⟩, h3⟩ := hc
      have k := chkA_rel hF h1
      simp only [aF] at hv
      split at hv
      · rename_i he
        injection hv with hv; subst hv
        rw [he] at k
        exact ⟨_, by simp [execOp, ho, rel_bool k, asBool], chkA_rel hF h2⟩
      · rename_i he
        injection hv with hv; subst hv
        rw [he] at k
        exact ⟨_, by simp [execOp, ho, rel_bool k, asBool], chkA_rel hF h3⟩
      · cases hv
    · cases hc
  | nilCheck y =>
    simp only [chkFI] at hc
    split at hc
    · rename_i x ho
      have k := chkA_rel hF hc
      simp only [aF] at hv
      split at hv
      · rename_i p he
        injection hv with hv; subst hv
        rw [he] at k
        obtain ⟨i, q⟩ := p
        obtain ⟨k1, k2⟩ := k
        exact ⟨_, by simp [execOp, ho, k2], k1, rfl⟩
      · rename_i cs he
        injection hv with hv; subst hv
        rw [he] at k
        have k' := k
        obtain ⟨b, p, us, e, _⟩ := k
        exact ⟨.pointer (some ⟨b, p, none⟩), by simp [execOp, ho, e], by rw [← e]; exact k'⟩
      · cases hv
    · cases hc
  | bin op' x' y' =>
    simp only [chkFI] at hc
    split at hc
    · rename_i op t x y t' ho
      simp only [Bool.and_eq_true, decide_eq_true_eq] at hc
      obtain ⟨⟨rfl, h1⟩, h2⟩ := hc
      obtain ⟨r, e, k⟩ := simBin (P := P) (w := w) (chkA_rel hF h1) (chkA_rel hF h2) hv t x y
      refine ⟨r, ?_, k⟩
      simp only [execOp, ho]
      rw [Sem.run_bind, e]
      rfl
    · cases hc
  | eq neg k x' y' =>
    simp only [chkFI] at hc
    split at hc
    · rename_i op t x y t' ho
      simp only [Bool.and_eq_true] at hc
      obtain ⟨⟨⟨h0, h1⟩, h2⟩, h3⟩ := hc
      simp only [aF] at hv
      obtain ⟨b, hb, rfl⟩ := Option.map_eq_some_iff.1 hv
      have e := simEq (P := P) (w := w) h3 (chkA_rel hF h1) (chkA_rel hF h2) hb 9999
      refine ⟨.bool (if neg then !b else b), ?_, rfl⟩
      have hnoagg : ∀ cs us, a.eval x = .agg cs → a.eval y = .agg us → False := by
        intro cs us e1 e2
        have kx := chkA_rel hF h1
        rw [e1] at kx
        unfold V.eq at hb
        split at hb <;> rename_i hxe hye <;> first | (rw [hxe] at kx; simp [RelV] at kx; done) | cases hb
      have hg : ∀ q, (eqGuard q t x y (a.eval x) (a.eval y)).run P w = .ok () w := by
        intro q
        refine eqGuard_run q t x y ?_ ?_ w
        · rintro ⟨e1, e2⟩
          have kx := chkA_rel hF h1
          have ky := chkA_rel hF h2
          rw [e1] at kx; rw [e2] at ky
          unfold V.eq at hb
          split at hb <;> rename_i hxe hye <;> first | (rw [hxe] at kx; simp [RelV] at kx; done) | (rw [hye] at ky; simp [RelV] at ky; done) | cases hb
        · rintro cs us ⟨e1, e2⟩
          exact hnoagg _ _ e1 e2
      cases op <;> simp only [] at h0 <;> (try (cases h0; done))
      · simp at h0; subst h0
        simp only [execOp, ho, Sem.run_bind, hg, Result.andThen_ok]
        have hbin : (Go.binOp .eql t (a.eval x) (a.eval y)) = (do pure (.bool (← Op.equal t (a.eval x) (a.eval y)))) := by
          have kx := chkA_rel hF h1
          unfold V.eq at hb
          split at hb <;> rename_i hxe hye <;> (try (cases hb; done)) <;> rw [hxe] at kx <;>
            first
              | (rw [rel_bool kx]; rfl)
              | (obtain ⟨q, kx', _⟩ := rel_ptr kx; rw [kx']; rfl)
              | (obtain ⟨q, kx'⟩ := rel_eptr kx; rw [kx']; rfl)
              | (obtain ⟨q, c, kx', _⟩ := rel_sl kx; rw [kx']; rfl)
              | (obtain ⟨q, c, kx'⟩ := rel_msl kx; rw [kx']; rfl)
              | (obtain ⟨q, kx', _⟩ := rel_map kx; rw [kx']; rfl)
              | (obtain ⟨_, _, _, kx'⟩ := rel_func kx; rw [kx']; rfl)
              | (obtain ⟨_, kx', _⟩ := rel_iface kx; rw [kx']; rfl)
              | (have kx' : a.eval x = .nilFunc := kx; rw [kx']; rfl)
              | (have kx' : a.eval x = .nilIface := kx; rw [kx']; rfl)
        rw [hbin]
        simp [Op.equal, Op.maxDepth, e]
      · subst h0
        simp only [execOp, ho, Sem.run_bind, hg, Result.andThen_ok]
        have hbin : (Go.binOp .neq t (a.eval x) (a.eval y)) = (do pure (.bool (!(← Op.equal t (a.eval x) (a.eval y))))) := by
          have kx := chkA_rel hF h1
          unfold V.eq at hb
          split at hb <;> rename_i hxe hye <;> (try (cases hb; done)) <;> rw [hxe] at kx <;>
            first
              | (rw [rel_bool kx]; rfl)
              | (obtain ⟨q, kx', _⟩ := rel_ptr kx; rw [kx']; rfl)
              | (obtain ⟨q, kx'⟩ := rel_eptr kx; rw [kx']; rfl)
              | (obtain ⟨q, c, kx', _⟩ := rel_sl kx; rw [kx']; rfl)
              | (obtain ⟨q, c, kx'⟩ := rel_msl kx; rw [kx']; rfl)
              | (obtain ⟨q, kx', _⟩ := rel_map kx; rw [kx']; rfl)
              | (obtain ⟨_, _, _, kx'⟩ := rel_func kx; rw [kx']; rfl)
              | (obtain ⟨_, kx', _⟩ := rel_iface kx; rw [kx']; rfl)
              | (have kx' : a.eval x = .nilFunc := kx; rw [kx']; rfl)
              | (have kx' : a.eval x = .nilIface := kx; rw [kx']; rfl)
        rw [hbin]
        simp [Op.equal, Op.maxDepth, e]
    · cases hc
  | eqA neg m x' y' =>
    simp only [chkFI] at hc
    split at hc
    · rename_i op t x y t' ho
      simp only [Bool.and_eq_true] at hc
      obtain ⟨⟨⟨h0, h1⟩, h2⟩, h3⟩ := hc
      simp only [aF] at hv
      obtain ⟨b, hb, rfl⟩ := Option.map_eq_some_iff.1 hv
      obtain ⟨r, e, k⟩ := simEqA (P := P) (w := w) h3 (chkA_rel hF h1) (chkA_rel hF h2) hb neg op h0 x y
      refine ⟨r, ?_, k⟩
      simp only [execOp, ho]
      rw [Sem.run_bind, e]
      rfl
    · cases hc
  | un op' x' =>
    simp only [chkFI] at hc
    split at hc
    · rename_i op t x ho
      simp only [Bool.and_eq_true, decide_eq_true_eq] at hc
      obtain ⟨rfl, h1⟩ := hc
      obtain ⟨r, e, k⟩ := simUn (P := P) (w := w) (chkA_rel hF h1) hv
      exact ⟨r, by simp [execOp, ho, e], k⟩
    · cases hc
  | conv c x' =>
    simp only [chkFI] at hc
    split at hc
    · rename_i src dst x ho
      simp only [Bool.and_eq_true] at hc
      obtain ⟨r, e, k⟩ := simConv (P := P) hW (chkA_rel hF hc.1) hv hc.2
      exact ⟨r, by simp [execOp, ho, e], k⟩
    · cases hc
  | fieldAddr off x' =>
    simp only [chkFI] at hc
    split at hc
    · rename_i s x f ho
      simp only [Bool.and_eq_true] at hc
      obtain ⟨h1, h2⟩ := hc
      split at h2 <;> (try (cases h2; done))
      rename_i fields hs
      split at h2 <;> (try (cases h2; done))
      rename_i fd hfd
      simp only [Bool.and_eq_true, decide_eq_true_eq] at h2
      obtain ⟨rfl, h3⟩ := h2
      split at h3 <;> (try (cases h3; done))
      rename_i z hz
      have hz0 := of_decide_eq_true h3
      have k := chkA_rel hF h1
      simp only [aF] at hv
      split at hv
      · rename_i i q he
        injection hv with hv; subst hv
        rw [he] at k
        obtain ⟨k1, k2⟩ := k
        refine ⟨.pointer (some ⟨(g.loc i).1, (g.loc i).2 + (q + fd.offset), none⟩), ?_, k1, rfl⟩
        simp [execOp, ho, k2, Instr.fieldAt, run_underlying hs, hfd, Instr.sureAddr, fieldPlace, szOf_run hz, hz0, add_at, Nat.add_assoc]
      · rename_i cs he
        injection hv with hv; subst hv
        rw [he] at k
        obtain ⟨b, p, us, e, r, on, ic⟩ := k
        refine ⟨.pointer (some ⟨b, p + fd.offset, none⟩), ?_, b, p + fd.offset, us.drop fd.offset, rfl, r.drop _, on.drop _, ic.drop _⟩
        simp [execOp, ho, e, Instr.fieldAt, run_underlying hs, hfd, Instr.sureAddr, fieldPlace, szOf_run hz, hz0, add_at]
      · cases hv
    · cases hc
  | field agg off sz x' =>
    simp only [chkFI] at hc
    split at hc
    · rename_i t x f ho
      simp only [Bool.and_eq_true] at hc
      obtain ⟨h1, h2⟩ := hc
      split at h2 <;> (try (cases h2; done))
      rename_i fields hs
      split at h2 <;> (try (cases h2; done))
      rename_i fd hfd
      simp only [Bool.and_eq_true, decide_eq_true_eq] at h2
      obtain ⟨⟨rfl, h3⟩, h4⟩ := h2
      have k := chkA_rel hF h1
      simp only [aF] at hv
      split at hv
      · rename_i cs he
        rw [he] at k
        obtain ⟨us, e, r, on⟩ := k
        obtain ⟨u, eu, ku⟩ := part_rel (P := P) (w := w) r on h4 h3 hv
        exact ⟨u, by simp [execOp, ho, e, Instr.field, run_underlying hs, hfd, asAgg, eu], ku⟩
      · cases hv
    · cases hc
  | indexAddr sz x' i' =>
    simp only [chkFI] at hc
    split at hc
    · rename_i t x i ho
      simp only [Bool.and_eq_true] at hc
      obtain ⟨⟨h1, h2⟩, h3⟩ := hc
      split at h3 <;> (try (cases h3; done))
      rename_i e ht
      have hs := of_decide_eq_true h3
      have k := chkA_rel hF h1
      simp only [aF] at hv
      split at hv
      · rename_i cs m sz' tk j he hj
        split at hv
        · rename_i hcond
          obtain ⟨hjm, rfl, htk⟩ := hcond
          injection hv with hv; subst hv
          obtain ⟨kd, hu⟩ := idx_rel (chkA_rel hF h2) hj
          rw [he] at k
          obtain ⟨hlen, k⟩ := k
          rcases k with ⟨h', _⟩ | ⟨_, b, p, cap, us, e', hcp, r, on, ic, _⟩ | ⟨_, h0, _⟩
          · exact absurd h' htk
          rotate_left
          · omega
          refine ⟨.pointer (some ⟨b, p + j * sz', none⟩), ?_, b, p + j * sz', us.drop (j * sz'), rfl, r.drop _, on.drop _, ic.drop _⟩
          have hlt : (0 : Int) ≤ j ∧ (j : Int) < m := by omega
          simp [execOp, ho, e', hu, Instr.indexAt, run_underlying ht, asIntOf, szOf_run hs, add_at, hjm]
        · cases hv
      · rename_i q off m sz' j he hj
        split at hv
        · rename_i hcond
          obtain ⟨hjm, rfl⟩ := hcond
          injection hv with hv; subst hv
          obtain ⟨kd, hu⟩ := idx_rel (chkA_rel hF h2) hj
          rw [he] at k
          obtain ⟨k1, cap, e', _⟩ := k
          refine ⟨.pointer (some ⟨(g.loc q).1, (g.loc q).2 + (off + j * sz'), none⟩), ?_, k1, rfl⟩
          simp [execOp, ho, e', hu, Instr.indexAt, run_underlying ht, asIntOf, szOf_run hs, add_at, hjm, Nat.add_assoc]
        · cases hv
      · cases hv
    · cases hc
  | indexAddrA len sz x' i' =>
    simp only [chkFI] at hc
    split at hc
    · rename_i t x i ho
      simp only [Bool.and_eq_true] at hc
      obtain ⟨⟨h1, h2⟩, h3⟩ := hc
      split at h3 <;> (try (cases h3; done))
      rename_i len' e ht
      simp only [Bool.and_eq_true, decide_eq_true_eq] at h3
      obtain ⟨rfl, hs⟩ := h3
      have k := chkA_rel hF h1
      simp only [aF] at hv
      split at hv
      · rename_i q off j he hj
        split at hv
        · rename_i hjm
          injection hv with hv; subst hv
          obtain ⟨kd, hu⟩ := idx_rel (chkA_rel hF h2) hj
          rw [he] at k
          obtain ⟨k1, e'⟩ := k
          refine ⟨.pointer (some ⟨(g.loc q).1, (g.loc q).2 + (off + j * sz), none⟩), ?_, k1, rfl⟩
          simp [execOp, ho, e', hu, Instr.indexAt, run_underlying ht, asIntOf, szOf_run hs, add_at, hjm, Instr.sureAddr, Nat.add_assoc]
        · cases hv
      · rename_i cs j he hj
        split at hv
        · rename_i hjm
          injection hv with hv; subst hv
          obtain ⟨kd, hu⟩ := idx_rel (chkA_rel hF h2) hj
          rw [he] at k
          obtain ⟨b, p, us, e', r, on, ic⟩ := k
          refine ⟨.pointer (some ⟨b, p + j * sz, none⟩), ?_, b, p + j * sz, us.drop (j * sz), rfl, r.drop _, on.drop _, ic.drop _⟩
          simp [execOp, ho, e', hu, Instr.indexAt, run_underlying ht, asIntOf, szOf_run hs, add_at, hjm, Instr.sureAddr]
        · cases hv
      · cases hv
    · cases hc
  | indexS x' i' =>
    simp only [chkFI] at hc
    split at hc
    · rename_i t x i ho
      simp only [Bool.and_eq_true] at hc
      obtain ⟨⟨h1, h2⟩, h3⟩ := hc
      split at h3 <;> (try (cases h3; done))
      rename_i ht
      have k := chkA_rel hF h1
      simp only [aF] at hv
      split at hv
      · rename_i s j he hj
        obtain ⟨b, hb, rfl⟩ := Option.map_eq_some_iff.1 hv
        obtain ⟨kd, hu⟩ := idx_rel (chkA_rel hF h2) hj
        rw [he] at k
        refine ⟨.int .u8 b.toNat, ?_, rfl⟩
        simp [execOp, ho, rel_str k, hu, Instr.index, run_underlying ht, asIntOf, hb]
      · cases hv
    · cases hc
  | indexA agg len sz x' i' =>
    simp only [chkFI] at hc
    split at hc
    · rename_i t x i ho
      simp only [Bool.and_eq_true] at hc
      obtain ⟨⟨h1, h2⟩, h3⟩ := hc
      split at h3 <;> (try (cases h3; done))
      rename_i len' e ht
      simp only [Bool.and_eq_true, decide_eq_true_eq] at h3
      obtain ⟨⟨rfl, hs⟩, ha⟩ := h3
      have k := chkA_rel hF h1
      simp only [aF] at hv
      split at hv
      · rename_i cs j he hj
        split at hv
        · rename_i hjm
          obtain ⟨kd, hu⟩ := idx_rel (chkA_rel hF h2) hj
          rw [he] at k
          obtain ⟨us, e', r, on⟩ := k
          obtain ⟨u, eu, ku⟩ := part_rel (P := P) (w := w) r on ha hs hv
          refine ⟨u, ?_, ku⟩
          simp [execOp, ho, e', hu, Instr.index, run_underlying ht, asIntOf, szOf_run hs, hjm, eu]
        · cases hv
      · cases hv
    · cases hc
  | load agg sz x' =>
    simp only [chkFI] at hc
    split at hc
    · rename_i t x ho
      simp only [Bool.and_eq_true, decide_eq_true_eq] at hc
      obtain ⟨⟨h1, hs⟩, ha⟩ := hc
      have k := chkA_rel hF h1
      simp only [aF] at hv
      split at hv
      · rename_i i off he
        obtain ⟨cs, hcs, hv⟩ := Option.bind_eq_some_iff.1 hv
        rw [he] at k
        obtain ⟨k1, e⟩ := k
        obtain ⟨xs, r, on, rd⟩ := hW.cells hcs
        obtain ⟨u, eu, ku⟩ := run_loadVar_reads (P := P) ha hs (r.drop off) (on.drop off) (rd.drop off) hv
        exact ⟨u, by simp [execOp, ho, e, Instr.loadAt, Instr.sureAddr, eu], ku⟩
      · rename_i cs he
        rw [he] at k
        obtain ⟨b, p, us, e, r, on, ic⟩ := k
        obtain ⟨u, eu, ku⟩ := run_loadVar_reads (P := P) ha hs r on (hW.reads ic) hv
        exact ⟨u, by simp [execOp, ho, e, Instr.loadAt, Instr.sureAddr, eu], ku⟩
      · cases hv
    · cases hc
  | len lk x' =>
    simp only [chkFI] at hc
    split at hc
    · rename_i xs ts ho
      split at hc <;> (try (cases hc; done))
      rename_i x t hxs hts
      simp only [Bool.and_eq_true] at hc
      obtain ⟨h1, h2⟩ := hc
      have k := chkA_rel hF h1
      have exs : xs = #[x] := Array.toList_inj.1 hxs
      have ets : ts = #[t] := Array.toList_inj.1 hts
      subst exs; subst ets
      have hex : ∀ u, (Builtin.len_ #[t] o.type #[a.eval x]).run P w = .ok u w → (execOp a.eval o).run P w = .ok (.value u) w := fun u hu => by
        simp [execOp, ho, resolve, invoke, builtin, hu]
      split at h2 <;> (try (cases h2; done))
      · rename_i ht
        simp only [aF] at hv
        split at hv <;> (try (cases hv; done))
        rename_i s he
        injection hv with hv; subst hv
        rw [he] at k
        exact ⟨_, hex _ (by simp [Builtin.len_, goInt, run_underlying ht, rel_str k]), rfl⟩
      · rename_i ht
        simp only [aF] at hv
        split at hv <;> (try (cases hv; done))
        · rename_i cs m sz tk he
          injection hv with hv; subst hv
          rw [he] at k
          obtain ⟨q, c, e, _⟩ := rel_sl k
          exact ⟨_, hex _ (by simp [Builtin.len_, goInt, run_underlying ht, e]), rfl⟩
        · rename_i q off m sz he
          injection hv with hv; subst hv
          rw [he] at k
          obtain ⟨q, c, e⟩ := rel_msl k
          exact ⟨_, hex _ (by simp [Builtin.len_, goInt, run_underlying ht, e]), rfl⟩
      · rename_i ht
        simp only [aF] at hv
        split at hv <;> (try (cases hv; done))
        · rename_i he
          injection hv with hv; subst hv
          rw [he] at k
          have e : a.eval x = .map none := k
          exact ⟨_, hex _ (by simp [Builtin.len_, goInt, run_underlying ht, e]), rfl⟩
        · rename_i r he
          split at hv <;> (try (cases hv; done))
          rename_i es c hes
          injection hv with hv; subst hv
          rw [he] at k
          obtain ⟨k1, e⟩ := k
          obtain ⟨ms, hms, hm⟩ := hW.map hes
          refine ⟨.int .i64 ms.size, hex _ (by simp [Builtin.len_, goInt, run_underlying ht, e, run_getMap hms]), ?_⟩
          rw [hm.1]
          simp [RelV]
    · cases hc
  | sliceS x' lo' hi' =>
    simp only [chkFI] at hc
    split at hc
    · rename_i t x lo hi ho
      simp only [Bool.and_eq_true] at hc
      obtain ⟨⟨⟨h1, h2⟩, h3⟩, h4⟩ := hc
      split at h4 <;> (try (cases h4; done))
      rename_i ht
      have k := chkA_rel hF h1
      simp only [aF] at hv
      split at hv <;> (try (cases hv; done))
      rename_i s he
      obtain ⟨q, hq, rfl⟩ := Option.map_eq_some_iff.1 hv
      rw [he] at k
      obtain ⟨b1, b2, hb⟩ := bounds_rel (P := P) (w := w) hF h2 h3 (Nat.le_refl _) hq false
      refine ⟨.string (s.extract q.1 q.2), ?_, rfl⟩
      simp [execOp, ho, rel_str k, Instr.sliceAt, Instr.slice, run_underlying ht, hb]
    · cases hc
  | slice sz x' lo' hi' mx' =>
    simp only [chkFI] at hc
    split at hc
    · rename_i t x lo hi mx ho
      simp only [Bool.and_eq_true] at hc
      obtain ⟨⟨⟨⟨⟨h1, h2⟩, h3⟩, h4⟩, h5⟩, h6⟩ := hc
      split at h6 <;> (try (cases h6; done))
      rename_i e ht
      have hs := of_decide_eq_true h6
      simp only [aF] at hv
      obtain ⟨r, er, kr⟩ := simSlice (P := P) hW hF ht hs h1 h2 h3 h4 h5 hv
      exact ⟨r, by simp [execOp, ho, er], kr⟩
    · cases hc
  | build zero parts =>
    simp only [chkFI] at hc
    split at hc
    · rename_i t ps ho
      simp only [Bool.and_eq_true] at hc
      obtain ⟨h1, h2⟩ := hc
      obtain ⟨z, ez, rz, oz⟩ := zero_run (P := P) (g := g) h1 w
      simp only [aF] at hv
      obtain ⟨cs, hcs, rfl⟩ := Option.map_eq_some_iff.1 hv
      split at h2 <;> (try (cases h2; done))
      · rename_i fields ht
        simp only [Bool.and_eq_true] at h2
        obtain ⟨h3, h4⟩ := h2
        obtain ⟨us, e, r, on⟩ := fill_rel hF h4 hcs rz oz
        refine ⟨.agg us, ?_, us.toList, by simp, r, on⟩
        have hmap : (fields.mapM (m := Sem) fun f => do pure (f.offset, ← Go.sizeOf f.type)).run P w = .ok (fields.toList.map fun f => (f.offset, (szOf P f.type).getD 0)).toArray w := by
          rw [← Array.toArray_toList (xs := fields)]
          simp only [List.mapM_toArray, Sem.run_map]
          rw [mapM_places h3]
          simp
        have hpl : (fun i => (fields.toList.map fun f => (f.offset, (szOf P f.type).getD 0)).toArray[i]?) = fieldPlaces P fields := by
          funext i
          simp only [List.getElem?_toArray, List.getElem?_map, Array.getElem?_toList, fieldPlaces]
          cases hfi : fields[i]? with
          | none => rfl
          | some f =>
            have hmem : f ∈ fields.toList := List.mem_of_getElem? (by rw [Array.getElem?_toList]; exact hfi)
            obtain ⟨s, hs⟩ := Option.isSome_iff_exists.1 (List.all_eq_true.1 h3 f hmem)
            simp [hs]
        simp only [execOp, ho, Instr.build, Sem.run_bind, ez, Result.andThen_ok, run_underlying ht, hmap, hpl, Array.toList_map, e]
        rfl
      · rename_i m e ht
        split at h2 <;> (try (cases h2; done))
        rename_i s hs
        obtain ⟨us, e', r, on⟩ := fill_rel hF h2 hcs rz oz
        refine ⟨.agg us, ?_, us.toList, by simp, r, on⟩
        simp only [execOp, ho, Instr.build, Sem.run_bind, ez, Result.andThen_ok, run_underlying ht, szOf_run hs, Array.toList_map, e']
        rfl
    · cases hc
  | mkIface t' x' =>
    simp only [chkFI] at hc
    split at hc
    · rename_i t x ho
      simp only [Bool.and_eq_true, decide_eq_true_eq] at hc
      obtain ⟨⟨rfl, h1⟩, h2⟩ := hc
      simp only [aF] at hv
      injection hv with hv; subst hv
      split at h2 <;> (try (cases h2; done))
      rename_i d hni ht
      refine ⟨.iface t (a.eval x), ?_, _, rfl, chkA_rel hF h1⟩
      simp only [execOp, ho, Instr.makeInterface, Sem.run_bind, run_underlying ht, Result.andThen_ok]
      first
        | rfl
        | (split
           · rename_i q; exact absurd rfl (hni _)
           · rfl)
    · cases hc
  | mkFunc f' pre' cap' =>
    simp only [chkFI] at hc
    split at hc
    · rename_i f pre cap ho
      simp only [Bool.and_eq_true, decide_eq_true_eq] at hc
      obtain ⟨⟨rfl, h1⟩, h2⟩ := hc
      simp only [aF] at hv
      injection hv with hv; subst hv
      have hm : ∀ xs : Array Operand, xs.map a.eval = (xs.toList.map a.eval).toArray := fun xs => by rw [← Array.toList_map, Array.toArray_toList]
      exact ⟨.func (.func f) (pre.map a.eval) (cap.map a.eval), by simp [execOp, ho, Instr.makeFunc], pre.toList.map a.eval, cap.toList.map a.eval, by rw [← hm, ← hm], chkAs_rel hF h1, chkAs_rel hF h2⟩
    · cases hc
  | extract x' i' =>
    simp only [chkFI] at hc
    split at hc
    · rename_i x i ho
      simp only [Bool.and_eq_true, decide_eq_true_eq] at hc
      obtain ⟨rfl, h1⟩ := hc
      have k := chkA_rel hF h1
      simp only [aF] at hv
      split at hv <;> (try (cases hv; done))
      rename_i vs he
      rw [he] at k
      obtain ⟨us, e, r⟩ := k
      obtain ⟨u, hu, ku⟩ := r.at_ hv
      exact ⟨u, by simp [execOp, ho, e, Instr.extract, hu], ku⟩
    · cases hc
  | lookup kk ok' zero m' k' =>
    simp only [chkFI] at hc
    split at hc
    · rename_i t m kx ok ho
      simp only [Bool.and_eq_true, decide_eq_true_eq] at hc
      obtain ⟨⟨⟨rfl, h1⟩, h2⟩, h3⟩ := hc
      split at h3 <;> (try (cases h3; done))
      rename_i kt et ht
      simp only [Bool.and_eq_true] at h3
      obtain ⟨h4, h5⟩ := h3
      obtain ⟨z, ez, kz⟩ := zeroV_run (P := P) (g := g) h5 w
      have k := chkA_rel hF h1
      have kk2 := chkA_rel hF h2
      simp only [aF] at hv
      split at hv <;> (try (cases hv; done))
      · rename_i he
        split at hv <;> (try (cases hv; done))
        injection hv with hv; subst hv
        rw [he] at k
        have e : a.eval m = .map none := k
        have hkd : ∃ d, P.underlying kt = some d := by
          unfold keyKind at h4
          split at h4 <;> first | exact ⟨_, by assumption⟩ | cases h4
        obtain ⟨d, hd⟩ := hkd
        have hfk : (Instr.findKey kt (a.eval kx) []).run P w = .ok none w := by simp [Instr.findKey, run_underlying hd, Instr.findNow]
        have hck := checkKey_run (P := P) h4 true 9999 (a.eval kx) w
        refine ⟨if ok then .tuple #[z, .bool false] else z, ?_, ?_⟩
        · simp [execOp, ho, e, Instr.lookup, run_underlying ht, hck, hfk, ez]
        · cases ok with
          | true => exact ⟨[z, .bool false], rfl, z, _, rfl, kz, _, _, rfl, rfl, rfl⟩
          | false => exact kz
      · rename_i r he
        split at hv <;> (try (cases hv; done))
        rename_i es c hes
        split at hv <;> (try (cases hv; done))
        obtain ⟨fr', hfr, hv⟩ := Option.map_eq_some_iff.1 hv
        rw [he] at k
        obtain ⟨k1, e⟩ := k
        obtain ⟨ms, hms, hm⟩ := hW.map hes
        obtain ⟨r', er, hr⟩ := findKey_rel (P := P) h4 kk2 hm hfr w
        have hck := checkKey_run (P := P) h4 ms.isEmpty 9999 (a.eval kx) w
        cases fr' with
        | none =>
          cases r' with
          | some _ => exact hr.elim
          | none =>
            subst hv
            refine ⟨if ok then .tuple #[z, .bool false] else z, ?_, ?_⟩
            · simp [execOp, ho, e, Instr.lookup, run_underlying ht, run_getMap hms, hck, er, ez]
            · cases ok with
              | true => exact ⟨[z, .bool false], rfl, z, _, rfl, kz, _, _, rfl, rfl, rfl⟩
              | false => exact kz
        | some q =>
          cases r' with
          | none => exact hr.elim
          | some q' =>
            obtain ⟨j, v1⟩ := q
            obtain ⟨j', u1⟩ := q'
            obtain ⟨_, _, k3, _⟩ := hr
            subst hv
            refine ⟨if ok then .tuple #[u1, .bool true] else u1, ?_, ?_⟩
            · simp [execOp, ho, e, Instr.lookup, run_underlying ht, run_getMap hms, hck, er]
            · cases ok with
              | true => exact ⟨[u1, .bool true], rfl, u1, _, rfl, k3, _, _, rfl, rfl, rfl⟩
              | false => exact k3
    · cases hc
  | entry x' =>
    simp only [chkFI] at hc
    split at hc
    · rename_i x ho
      have k := chkA_rel hF hc
      simp only [aF] at hv
      split at hv <;> (try (cases hv; done))
      rename_i j he
      rw [he] at k
      obtain ⟨k1, e1⟩ := k
      split at hv <;> (try (cases hv; done))
      rename_i r since seen last hit
      split at hv <;> (try (cases hv; done))
      rename_i es c hes
      split at hv <;> (try (cases hv; done))
      rename_i hcl
      subst hcl
      obtain ⟨b, hb, hv⟩ := Option.bind_eq_some_iff.1 hv
      obtain ⟨e, hfe, hv⟩ := Option.map_eq_some_iff.1 hv
      subst hv
      obtain ⟨_, _, ob, hob, hr, rfl⟩ := hW.hp j _ hit
      obtain ⟨ms, hms, hm⟩ := hW.map hes
      have hget := run_getAny (P := P) hob (fun _ _ _ => by intro hh; cases hh)
      have hgetm := run_getMap (P := P) hms
      have key : ∀ (es : List (V × V × Nat)) (l : List MapEntry), es.length = l.length → (∀ (j : Nat) (e : V × V × Nat) (m : MapEntry), es[j]? = some e → l[j]? = some m → RelV g e.1 m.key ∧ RelV g e.2.1 m.val ∧ m.born = e.2.2) → ∀ e, es.find? (fun e => e.2.2 == b) = some e → ∃ m, l.find? (fun m => m.born == b) = some m ∧ RelV g e.1 m.key ∧ RelV g e.2.1 m.val := by
        intro es
        induction es with
        | nil => intro l _ _ e h; cases h
        | cons a es ih =>
          intro l hl hr e h
          cases l with
          | nil => simp at hl
          | cons m l =>
            obtain ⟨q1, q2, q3⟩ := hr 0 a m rfl rfl
            rw [List.find?_cons] at h ⊢
            rw [q3]
            cases hab : a.2.2 == b <;> rw [hab] at h
            · exact ih l (by simpa using hl) (fun j e m h1 h2 => hr (j + 1) e m h1 h2) e h
            · injection h with h
              subst h
              exact ⟨m, rfl, q1, q2⟩
      obtain ⟨m, hfm, q1, q2⟩ := key es ms.toList hm.1 (fun j e m h1 h2 => by obtain ⟨a1, a2, a3, _⟩ := hm.2 j e m h1 h2; exact ⟨a1, a2, a3⟩) e hfe
      have hback : seen.toArray.back? = some b := by rw [List.back?_toArray]; exact hb
      have hfa : ms.find? (fun m => m.born == b) = some m := by rw [← Array.find?_toList]; exact hfm
      have e0 : (Option.map (fun r => (g.loc r).fst) (some r)) = some (g.loc r).1 := rfl
      refine ⟨.tuple #[m.key, m.val], ?_, ⟨[m.key, m.val], rfl, _, _, rfl, q1, _, _, rfl, q2, rfl⟩⟩
      simp [execOp, ho, e1, Instr.entry, Sem.run_bind, hget, e0, hback, hgetm, hfa]
    · cases hc
  | assertT t' ok' zero x' =>
    simp only [chkFI] at hc
    split at hc
    · rename_i x xt t ok ho
      simp only [Bool.and_eq_true, decide_eq_true_eq] at hc
      obtain ⟨⟨⟨⟨rfl, rfl⟩, h1⟩, h2⟩, h3⟩ := hc
      obtain ⟨z, ez, kz⟩ := zeroV_run (P := P) (g := g) h2 w
      have k := chkA_rel hF h1
      split at h3 <;> (try (cases h3; done))
      rename_i d hni ht
      simp only [aF] at hv
      split at hv <;> (try (cases hv; done))
      · rename_i t1 v1 he
        rw [he] at k
        obtain ⟨u1, e, k1⟩ := k
        split at hv
        · rename_i htt
          subst htt
          injection hv with hv; subst hv
          refine ⟨if ok then .tuple #[u1, .bool true] else u1, ?_, ?_⟩
          · cases d <;> first | exact absurd rfl (hni _) | simp [execOp, ho, Instr.typeAssert, run_underlying ht, e]
          · cases ok with
            | true => exact ⟨[u1, .bool true], rfl, u1, _, rfl, k1, _, _, rfl, rfl, rfl⟩
            | false => exact k1
        · rename_i htt
          split at hv <;> (try (cases hv; done))
          rename_i hok
          injection hv with hv; subst hv
          subst hok
          refine ⟨.tuple #[z, .bool false], ?_, [z, .bool false], rfl, z, _, rfl, kz, _, _, rfl, rfl, rfl⟩
          cases d <;> first | exact absurd rfl (hni _) | simp [execOp, ho, Instr.typeAssert, run_underlying ht, e, htt, ez]
      · rename_i he
        split at hv <;> (try (cases hv; done))
        rename_i hok
        injection hv with hv; subst hv
        subst hok
        rw [he] at k
        have e : a.eval x = .nilIface := k
        refine ⟨.tuple #[z, .bool false], ?_, [z, .bool false], rfl, z, _, rfl, kz, _, _, rfl, rfl, rfl⟩
        cases d <;> first | exact absurd rfl (hni _) | simp [execOp, ho, Instr.typeAssert, run_underlying ht, e, ez]
    · cases hc
  | minmax isMax xs' =>
    simp only [chkFI] at hc
    split at hc
    · rename_i b xs ts ho
      simp only [Bool.and_eq_true] at hc
      obtain ⟨h1, h2⟩ := hc
      have kl := chkAs_rel hF h2
      simp only [aF] at hv
      split at hv <;> (try (cases hv; done))
      rename_i x1 xr
      obtain ⟨u1, ur, eus, k1, kr⟩ := kl
      obtain ⟨r, er, kz⟩ := minmaxL_rel (P := P) (w := w) k1 kr hv
      have exs : (xs.map a.eval).toList = u1 :: ur := by simpa using eus
      refine ⟨r, ?_, kz⟩
      cases b <;> simp only [] at h1 <;> (try (cases h1; done))
      · subst h1
        simp only [execOp, ho, resolve, invoke, builtin, Sem.run_bind, Sem.run_pure, Result.andThen_ok, Builtin.max_, exs]
        rw [show (if true = true then Builtin.max2 else Builtin.min2) = Builtin.max2 from rfl] at er
        rw [er]; rfl
      · have : isMax = false := by simpa using h1
        subst this
        simp only [execOp, ho, resolve, invoke, builtin, Sem.run_bind, Sem.run_pure, Result.andThen_ok, Builtin.min_, exs]
        rw [show (if false = true then Builtin.max2 else Builtin.min2) = Builtin.min2 from rfl] at er
        rw [er]; rfl
    · cases hc
end
end Go.VM
namespace Go.VM
open Go Go.RowKit
theorem setRow_heapAny (w : World) (b : Nat) (cur cs : Array Value) (t : TypeId) (fr : Nat × Nat) (h : w.heap[b]? = some (.cells cur t fr)) : (w.setRow b cs).heap[b]? = some (.cells cs t fr) := by
 have hlt : b < w.heap.size := (Array.getElem?_eq_some_iff.1 h).1
 simp only [World.setRow, Array.getElem?_modify, h, if_true, Option.map_some]
theorem setRow_selfAny (w : World) (b : Nat) (cur : Array Value) (t : TypeId) (fr : Nat × Nat) (h : w.heap[b]? = some (.cells cur t fr)) : w.setRow b cur = w := by
 obtain ⟨hlt, hb⟩ := Array.getElem?_eq_some_iff.1 h
 unfold World.setRow
 congr 1
 apply Array.ext
 ·simp
 ·intro i h1 h2
  simp only [Array.getElem_modify]
  split
  ·rename_i e; subst e; rw [hb]
  ·rfl
theorem setCell_setRow (w : World) (b i : Nat) (cur : Array Value) (t : TypeId) (fr : Nat × Nat) (v : Value) (h : w.heap[b]? = some (.cells cur t fr)) :
  w.setCell ⟨b, i, none⟩ v = w.setRow b (cur.setIfInBounds i v) := by
 obtain ⟨hlt, hb⟩ := Array.getElem?_eq_some_iff.1 h
 unfold World.setCell World.setRow
 congr 1
 apply Array.ext
 ·simp
 ·intro k h1 h2
  simp only [Array.getElem_modify]
  split
  ·rename_i e; subst e; rw [hb]; simp
  ·rfl
theorem setRow_setRow (w : World) (b : Nat) (x y : Array Value) : (w.setRow b x).setRow b y = w.setRow b y := by
 unfold World.setRow
 congr 1
 apply Array.ext
 ·simp
 ·intro k h1 h2
  simp only [Array.getElem_modify]
  split
  ·rename_i e; subst e
   cases w.heap[b]'(by simpa using h2) <;> rfl
  ·rfl
theorem run_storeCells_any {P : Program} (b o : Nat) (t : TypeId) (fr : Nat × Nat) : ∀ (vs : List Value) (i : Nat) (cur : Array Value) (w : World), w.heap[b]? = some (.cells cur t fr) → NoFz fr cur.size →
  o + i + vs.length ≤ cur.size → Ones vs →
  (storeCells ⟨b, o, none⟩ vs i).run P w = .ok () (w.setRow b (cur.toList.take (o + i) ++ vs ++ cur.toList.drop (o + i + vs.length)).toArray)
 | [], i, cur, w, h, hf, hl, h1 => by
  simp only [storeCells, List.append_nil, List.length_nil, Nat.add_zero, List.take_append_drop, Array.toArray_toList]
  rw [setRow_selfAny w b cur t fr h]
  rfl
 | v :: rest, i, cur, w, h, hf, hl, h1 => by
  have hi : o + i < cur.size := by simp at hl; omega
  have hcell : w.cell? ⟨b, o + i, none⟩ = some cur[o + i] := by simp [World.cell?, h, hi]
  have hfro : w.frozen? ⟨b, o + i, none⟩ = false := by
   have := hf.at_ (o + i) hi
   simp only [World.frozen?, h]
   rw [Bool.and_eq_false_iff]
   by_cases ha : fr.1 ≤ o + i
   ·right; simp; omega
   ·left; simp; omega
  simp only [storeCells, Sem.run_bind]
  rw [add_at, run_store P w _ v _ (h1 v (by simp)), hcell]
  simp only [hfro, Bool.false_eq_true, if_false, Result.andThen_ok]
  rw [setCell_setRow w b (o + i) cur t fr v h]
  have h' := setRow_heapAny w b cur (cur.setIfInBounds (o + i) v) t fr h
  have ih := run_storeCells_any (P := P) b o t fr rest (i + 1) (cur.setIfInBounds (o + i) v) _ h' (by simpa using hf) (by simp at hl ⊢; omega) (fun x hx => h1 x (by simp [hx]))
  rw [ih, setRow_setRow]
  congr 2
  simp only [Array.toList_setIfInBounds, List.length_cons]
  have hlt : o + i < cur.toList.length := by simpa using hi
  rw [List.drop_set_of_lt (by omega), show o + (i + 1) = o + i + 1 from by omega, List.take_succ_eq_append_getElem (by simpa using hlt), List.take_set_of_le (Nat.le_refl _)]
  simp [List.append_assoc, Nat.add_assoc, Nat.add_comm, Nat.add_left_comm]
theorem below_setRow' {B b : Nat} {w0 w : World} (h : Below B w0 w) (hb : B ≤ b) (cs : Array Value) : Below B w0 (w.setRow b cs) :=
 h.trans ⟨rfl, rfl, rfl, by simp [World.setRow], fun k hk => by
  simp only [World.setRow, Array.getElem?_modify]
  rw [if_neg (by omega)]⟩
theorem setRow_far (w : World) (b k : Nat) (cs : Array Value) (h : k ≠ b) : (w.setRow b cs).heap[k]? = w.heap[k]? := by
 simp only [World.setRow, Array.getElem?_modify]
 rw [if_neg (fun e => h e.symm)]
section
variable {P : Program} {w0 w : World} {g : G} {S : St}
theorem RelW.write (h : RelW w0 g S w) {b : Nat} (hfree : ∀ i y, S.hp i = some y → (g.loc i).1 ≠ b) {w' : World} (hw : Below w0.heap.size w0 w') (hsz : w'.heap.size = w.heap.size)
  (hold : ∀ k, k < w.heap.size → k ≠ b → w'.heap[k]? = w.heap[k]?) (hice : ∀ i v, g.ice b i = some v → w'.cell? ⟨b, i, none⟩ = some v) : RelW w0 g S w' := by
 refine ⟨hw, by rw [hsz]; exact h.nb, h.n, fun k p u hu => ?_, fun j y hy => ?_, h.sep⟩
 ·by_cases hk : k = b
  ·subst hk; exact hice p u hu
  ·rw [← h.ice k p u hu]
   exact World.cell?_of_block (hold k (h.iceLt hu) hk)
 ·obtain ⟨h3, h4, o', h5, h6⟩ := h.hp j y hy
  exact ⟨h3, h4, o', by rw [hold _ (h.lt hy) (hfree j y hy)]; exact h5, h6⟩
theorem fin_val (h : RelW w0 g S w) {b q : Nat} {row : Array Value} {ty : TypeId} {fr : Nat × Nat} (hb : w.heap[b]? = some (.cells row ty fr)) (hf : NoFz fr row.size) (hs : row.size = g.bs b) (hb0 : w0.heap.size ≤ b)
  (hfree : ∀ i y, S.hp i = some y → (g.loc i).1 ≠ b) {cs : List V} {us : List Value} (hr : RelL g cs us) (ho : Ones us) (hrow : ∀ (j : Nat) (v : Value), us[j]? = some v → row[q + j]? = some v)
  (hfront : ∀ i, q + us.length ≤ i → g.ice b i = none) {n sz cap : Nat} (hl : cs.length = n * sz) (hn : n ≤ cap) (hcap : q + cap * sz ≤ row.size) :
  ∃ g', g.le g' ∧ RelW w0 g' (S.add .tok) w ∧ RelV g' (.sl cs n sz (.at S.n)) (.slice (some ⟨b, q, none⟩) n cap) := by
 have hlt : b < w.heap.size := (Array.getElem?_eq_some_iff.1 hb).1
 let f : Nat → Option Value := fun i => if q ≤ i ∧ i < q + us.length then row[i]? else g.ice b i
 have hfmono : ∀ i v, g.ice b i = some v → f i = some v := fun i v hv => by
  have := h.ice b i v hv
  rw [cell_of_row w b i row ty fr hb] at this
  simp only [f]
  split
  ·exact this
  ·exact hv
 have hle1 := le_ices g b f hfmono
 have h1 : RelW w0 (g.ices b f) S w := h.ices hfree hfmono h.below rfl (fun _ _ _ => rfl) (fun i v hv => by
  rw [cell_of_row w b i row ty fr hb]
  simp only [f] at hv
  split at hv
  ·exact hv
  ·have := h.ice b i v hv
   rwa [cell_of_row w b i row ty fr hb] at this)
 have hle2 := le_obj (g.ices b f) b (q + us.length)
 have h2 : RelW w0 ((g.ices b f).obj b (q + us.length)) (S.add .tok) w := h1.obj hb hb0 hfree ⟨row, ty, fr, rfl, hf, hs, fun i hi => by
  show (if b = b then f i else _) = none
  rw [if_pos rfl]
  simp only [f]
  rw [if_neg (by omega)]
  exact hfront i hi⟩
 have hle := hle1.trans hle2
 refine ⟨_, hle, h2, hl, .inr (.inl ⟨(by intro hh; cases hh), b, q, cap, us, rfl, hn, RelL_mono hle _ _ hr, ho, fun j v hv => ?_, fun hh => (by cases hh), fun k hk => ?_⟩)⟩
 ·show (if b = b then f (q + j) else _) = some v
  rw [if_pos rfl]
  have hj := (List.getElem?_eq_some_iff.1 hv).1
  simp only [f]
  rw [if_pos (by omega)]
  exact hrow j v hv
 ·injection hk with hk; subst hk
  have hloc : ((g.ices b f).obj b (q + us.length)).loc S.n = (b, q + us.length) := by
   show (if S.n = g.n then _ else _) = _
   rw [if_pos h.n.symm]
  refine ⟨by show S.n < g.n + 1; rw [h.n]; omega, by rw [hloc], fun _ => ⟨?_, ?_, ?_⟩⟩
  ·rw [hloc, ← hr.len, hl]
  ·show b < g.nb; rw [h.nb]; exact hlt
  ·show q + cap * sz ≤ g.bs b; rw [← hs]; exact hcap
theorem fin_mut (h : RelW w0 g S w) {b q : Nat} {row : Array Value} {ty : TypeId} {fr : Nat × Nat} (hb : w.heap[b]? = some (.cells row ty fr)) (hf : NoFz fr row.size) (hs : row.size = g.bs b) (hb0 : w0.heap.size ≤ b)
  (hfree : ∀ i y, S.hp i = some y → (g.loc i).1 ≠ b) {cs : List V} {us : List Value} (hr : RelL g cs us) (ho : Ones us) (hrow : ∀ (j : Nat) (v : Value), us[j]? = some v → row[q + j]? = some v)
  (hfront : ∀ i, g.ice b i = none) {n sz cap : Nat} (hn : n ≤ cap) (hcap : q + cap * sz ≤ row.size) :
  ∃ g', g.le g' ∧ RelW w0 g' (S.add (.cells cs)) w ∧ RelV g' (.msl S.n 0 n sz) (.slice (some ⟨b, q, none⟩) n cap) ∧ RelV g' (.ptr (some (S.n, 0))) (.pointer (some ⟨b, q, none⟩)) := by
 have hlt : b < w.heap.size := (Array.getElem?_eq_some_iff.1 hb).1
 have hle := le_obj g b q
 have h2 : RelW w0 (g.obj b q) (S.add (.cells cs)) w := h.obj hb hb0 hfree ⟨row, ty, fr, rfl, hf, hs, hfront, us, RelL_mono hle _ _ hr, ho, hrow⟩
 have hloc : (g.obj b q).loc S.n = (b, q) := by
  show (if S.n = g.n then _ else _) = _
  rw [if_pos h.n.symm]
 have hlt2 : S.n < (g.obj b q).n := by show S.n < g.n + 1; rw [h.n]; omega
 refine ⟨_, hle, h2, ⟨hlt2, cap, by rw [hloc]; rfl, hn, ?_, ?_⟩, hlt2, by rw [hloc]; rfl⟩
 ·rw [hloc]; show b < g.nb; rw [h.nb]; exact hlt
 ·rw [hloc]; show q + 0 + cap * sz ≤ g.bs b; rw [← hs]; omega
theorem new_block (h : RelW w0 g S w) (row : Array Value) (ty : TypeId) (fr : Nat × Nat) : ∃ g', g.le g' ∧ RelW w0 g' S (w.alloc (.cells row ty fr)) ∧ (w.alloc (.cells row ty fr)).heap[w.heap.size]? = some (.cells row ty fr) ∧
  row.size = g'.bs w.heap.size ∧ w0.heap.size ≤ w.heap.size ∧ (∀ i y, S.hp i = some y → (g'.loc i).1 ≠ w.heap.size) ∧ (∀ i, g'.ice w.heap.size i = none) := by
 refine ⟨g.block row 0, le_block h row 0, h.block row ty fr 0, heap_alloc_new w _, ?_, h.below.size, fun i y hy => ?_, fun i => ?_⟩
 ·simp [G.block, h.nb]
 ·have := h.lt hy
  show (g.loc i).1 ≠ _
  omega
 ·simp only [G.block, h.nb, if_true]
  rw [if_neg (by omega)]
theorem new_cap (h : RelW w0 g S w) {cs : List V} {us : List Value} (hr : RelL g cs us) (ho : Ones us) (ty : TypeId) {n sz : Nat} (hl : cs.length = n * sz) :
  ∃ g', g.le g' ∧ RelW w0 g' S (w.alloc (.cells us.toArray ty)) ∧ RelV g' (.sl cs n sz .cap) (.slice (some ⟨w.heap.size, 0, none⟩) n n) := by
 have hle := le_block h us.toArray us.length
 refine ⟨g.block us.toArray us.length, hle, h.block _ _ _ _, hl, .inr (.inl ⟨(by intro hh; cases hh), w.heap.size, 0, n, us, rfl, Nat.le_refl _, RelL_mono hle _ _ hr, ho, fun j v hv => ?_, fun _ => rfl, fun k hk => (by cases hk)⟩)⟩
 have hj := (List.getElem?_eq_some_iff.1 hv).1
 simp only [G.block, h.nb, if_true, Nat.zero_add]
 rw [if_pos hj]
 simpa using hv
theorem new_obj (h : RelW w0 g S w) {cs : List V} {us : List Value} (hr : RelL g cs us) (ho : Ones us) (ty : TypeId) {n sz : Nat} (hl : cs.length = n * sz) :
  ∃ g', g.le g' ∧ RelW w0 g' (S.add (.cells cs)) (w.alloc (.cells us.toArray ty)) ∧ RelV g' (.msl S.n 0 n sz) (.slice (some ⟨w.heap.size, 0, none⟩) n n) ∧ RelV g' (.ptr (some (S.n, 0))) (.pointer (some ⟨w.heap.size, 0, none⟩)) := by
 obtain ⟨g1, l1, h1, e1, s1, b1, f1, i1⟩ := new_block h us.toArray ty (0, 0)
 obtain ⟨g2, l2, h2, r2, r3⟩ := fin_mut (q := 0) (n := n) (sz := sz) (cap := n) h1 e1 (.inl rfl) s1 b1 f1 (RelL_mono l1 _ _ hr) ho (fun j v hv => by simpa using hv) i1 (Nat.le_refl _) (by
  rw [← hl, hr.len]; simp)
 exact ⟨g2, l1.trans l2, h2, r2, r3⟩
end
end Go.VM
namespace Go.VM
open Go Go.RowKit
section
variable {P : Program} {w0 w : World} {g : G} {S : St} {n : Nat} {fr : Fr} {a : Act}
structure Src (P : Program) (w : World) (sz m : Nat) (u : Value) (ys : List Value) : Prop where
 len : ys.length = m * sz
 lenOf : ∀ w', (Builtin.lenOf u).run P w' = .ok m w'
 cells : ∀ w' : World, w'.heap = w.heap → (Builtin.firstCells sz m u).run P w' = .ok ys.toArray w'
theorem cell_of_heap {w w' : World} (h : w'.heap = w.heap) (x : Addr) : w'.cell? x = w.cell? x := World.cell?_of_block (by rw [h])
theorem firstCells_reads {sz m c : Nat} {q : Option Addr} {us : List Value} (hl : us.length = m * sz) (hq : m = 0 ∨ ∃ b p, q = some ⟨b, p, none⟩ ∧ Reads w b p us) (w' : World) (hw : w'.heap = w.heap) :
  (Builtin.firstCells sz m (.slice q m c)).run P w' = .ok us.toArray w' := by
 rcases hq with rfl | ⟨b, p, rfl, rd⟩
 ·have : us = [] := List.eq_nil_of_length_eq_zero (by simpa using hl)
  subst this
  cases q with
  | none => simp [Builtin.firstCells]
  | some q => simp [Builtin.firstCells, loadCells, loadCellsFrom]
 ·have := run_loadCells_list (P := P) w' ⟨b, p, none⟩ us (fun j v hj => by rw [add_at, cell_of_heap hw]; exact rd j v hj)
  simp only [Builtin.firstCells]
  rw [← hl]
  exact this
theorem elems_src (hW : RelW w0 g S w) {sz m : Nat} {v : V} {u : Value} {cs : List V} (h : RelV g v u) (he : v.elems S sz = some (m, cs)) : ∃ us, RelL g cs us ∧ Ones us ∧ Src P w sz m u us := by
 obtain ⟨hl, us, r, on, hsh⟩ := elems_rel hW h he
 have hul : us.length = m * sz := by rw [← r.len, hl]
 refine ⟨us, r, on, hul, ?_, ?_⟩
 ·rcases hsh with ⟨q, c, rfl, _⟩ | ⟨s, rfl, _, rfl, _⟩
  ·intro w'; simp [Builtin.lenOf]
  ·intro w'; simp [Builtin.lenOf]
 ·intro w' hw
  rcases hsh with ⟨q, c, rfl, hq⟩ | ⟨s, rfl, rfl, rfl, rfl⟩
  ·exact firstCells_reads hul hq w' hw
  ·simp only [Builtin.firstCells, Sem.run_pure]
   congr 1
   apply Array.toList_inj.1
   have e : s.extract 0 s.size = s := ByteArray.extract_zero_size
   rw [e]
   simp
theorem run_append_room' {t t2 e ty : TypeId} {i : TypeInfo} {d2 : TypeDesc} (ht : P.underlying t = some (.slice e)) (ht2 : P.underlying t2 = some d2) (hni : ∀ k, d2 ≠ .int k) (hi : P.info? e = some i)
  {b p m k c : Nat} {u : Value} {ys : List Value} (hs : Src P w i.size k u ys) (on : Ones ys) {row : Array Value} {ty' : TypeId} {fr : Nat × Nat} (hb : w.heap[b]? = some (.cells row ty' fr)) (hf : NoFz fr row.size)
  (hroom : m + k ≤ c) (hfit : p + m * i.size + ys.length ≤ row.size) :
  (Builtin.append_ #[t, t2] ty #[.slice (some ⟨b, p, none⟩) m c, u]).run P w =
   .ok (.slice (some ⟨b, p, none⟩) (m + k) c) (w.setRow b (row.toList.take (p + m * i.size) ++ ys ++ row.toList.drop (p + m * i.size + ys.length)).toArray) := by
 have hst := run_storeCells_any (P := P) b (p + m * i.size) ty' fr ys 0 row w hb hf (by omega) on
 simp only [Nat.add_zero] at hst
 have hz : (match d2 with | .int _ => true | _ => false) = false := by cases d2 <;> first | rfl | exact absurd rfl (hni _)
 simp [Builtin.append_, run_underlying ht, run_underlying ht2, Go.sizeOf, typeInfo, hi, hz, hs.lenOf, hroom, hs.cells w rfl, add_at, hst]
theorem run_append_none' {t t2 e ty : TypeId} {i : TypeInfo} {d2 : TypeDesc} (ht : P.underlying t = some (.slice e)) (ht2 : P.underlying t2 = some d2) (hni : ∀ k, d2 ≠ .int k) (hi : P.info? e = some i)
  {u : Value} {ys : List Value} (hs : Src P w i.size 0 u ys) : (Builtin.append_ #[t, t2] ty #[.slice none 0 0, u]).run P w = .ok (.slice none 0 0) w := by
 have hz : (match d2 with | .int _ => true | _ => false) = false := by cases d2 <;> first | rfl | exact absurd rfl (hni _)
 simp [Builtin.append_, run_underlying ht, run_underlying ht2, Go.sizeOf, typeInfo, hi, hz, hs.lenOf, hs.cells w rfl]
theorem run_append_grow' {t t2 e ty : TypeId} {i : TypeInfo} {z : Value} {d2 : TypeDesc} (ht : P.underlying t = some (.slice e)) (ht2 : P.underlying t2 = some d2) (hni : ∀ k, d2 ≠ .int k) (hi : P.info? e = some i) (hz : i.zero = some z)
  {q : Option Addr} {m k c : Nat} {us : List Value} (hl : us.length = m * i.size) (hq : m = 0 ∨ ∃ b p, q = some ⟨b, p, none⟩ ∧ Reads w b p us) {u : Value} {ys : List Value} (hs : Src P w i.size k u ys)
  (hgrow : c < m + k) (hby : i.bytes ≠ 0) (hroom : (m + k) * i.bytes ≤ 140737488355328) :
  (Builtin.append_ #[t, t2] ty #[.slice q m c, u]).run P w =
   .ok (.slice (some ⟨w.heap.size, 0, none⟩) (m + k) (grownCap w (m + k) c e)) (w.drew.alloc (.cells (us.toArray ++ ys.toArray ++ Builtin.zeroCells z.cells (grownCap w (m + k) c e - (m + k))) e)) := by
 have hzz : (match d2 with | .int _ => true | _ => false) = false := by cases d2 <;> first | rfl | exact absurd rfl (hni _)
 have hnr : ¬ (m + k ≤ c) := by omega
 have h48 : ¬ (281474976710656 < Builtin.nextslicecap (m + k) c * i.bytes) := by
  have := growslice_fits hgrow hroom
  omega
 have hfo := firstCells_reads (P := P) (w := w) (c := c) hl hq w.drew rfl
 have hfn := hs.cells w.drew rfl
 simp [Builtin.append_, run_underlying ht, run_underlying ht2, Go.sizeOf, typeInfo, zeroValue, hi, hz, hzz, hby, hs.lenOf, hnr, h48, Question.forced, hfo, hfn, newRow, grownCap]
 congr 2
 apply Array.ext'
 simp [List.append_assoc]
theorem size_zeroCells' (z : Array Value) (m : Nat) : (Builtin.zeroCells z m).size = m * z.size := by simp [Builtin.zeroCells]
theorem sim_grown (h : RelW w0 g S w) {cs xs : List V} {us ys : List Value} (hr : RelL g cs us) (on : Ones us) (hr2 : RelL g xs ys) (on2 : Ones ys) {m k sz : Nat} (hl : us.length = m * sz) (hl2 : ys.length = k * sz)
  (mu : Bool) {z : Array Value} (hz : z.size = sz) (e : TypeId) {c : Nat} (hc : m + k ≤ c) :
  ∃ g', g.le g' ∧ RelW w0 g' (grown S mu (cs ++ xs) (m + k) sz).2 (w.drew.alloc (.cells (us.toArray ++ ys.toArray ++ Builtin.zeroCells z (c - (m + k))) e)) ∧
   RelV g' (grown S mu (cs ++ xs) (m + k) sz).1 (.slice (some ⟨w.heap.size, 0, none⟩) (m + k) c) := by
 obtain ⟨g1, l1, h1, e1, s1, b1, f1, i1⟩ := new_block h.drew (us.toArray ++ ys.toArray ++ Builtin.zeroCells z (c - (m + k))) e (0, 0)
 have hsz : (us.toArray ++ ys.toArray ++ Builtin.zeroCells z (c - (m + k))).size = c * sz := by
  simp only [Array.size_append, List.size_toArray, size_zeroCells', hl, hl2, hz, ← Nat.add_mul]
  congr 1; omega
 have hrow : ∀ (j : Nat) (v : Value), (us ++ ys)[j]? = some v → (us.toArray ++ ys.toArray ++ Builtin.zeroCells z (c - (m + k)))[0 + j]? = some v := fun j v hv => by
  rw [Nat.zero_add]
  have hj := (List.getElem?_eq_some_iff.1 hv).1
  rw [Array.getElem?_append_left (by simpa using hj)]
  simpa using hv
 have hrel := RelL_mono l1 _ _ (hr.append hr2)
 have hlen : (cs ++ xs).length = (m + k) * sz := by rw [List.length_append, hr.len, hr2.len, hl, hl2, Nat.add_mul]
 cases mu with
 | false =>
  obtain ⟨g2, l2, h2, r2⟩ := fin_val (q := 0) (n := m + k) (sz := sz) (cap := c) h1 e1 (.inl rfl) s1 b1 f1 hrel (on.append on2) hrow (fun i _ => i1 i) hlen hc (by rw [hsz]; simp)
  exact ⟨g2, l1.trans l2, h2, r2⟩
 | true =>
  obtain ⟨g2, l2, h2, r2, _⟩ := fin_mut (q := 0) (n := m + k) (sz := sz) (cap := c) h1 e1 (.inl rfl) s1 b1 f1 hrel (on.append on2) hrow i1 hc (by rw [hsz]; simp)
  exact ⟨g2, l1.trans l2, h2, r2⟩
theorem simAppend (hW : RelW w0 g S w) {t t2 e ty : TypeId} {i : TypeInfo} {z : Value} {d2 : TypeDesc} (ht : P.underlying t = some (.slice e)) (ht2 : P.underlying t2 = some d2) (hni : ∀ k, d2 ≠ .int k) (hi : P.info? e = some i)
  (hz : i.zero = some z) (hzs : z.cells.size = i.size) (hby : i.bytes ≠ 0) {s : V} {v u : Value} (hs : RelV g s v) {k : Nat} {xs : List V} {ys : List Value} (hr2 : RelL g xs ys) (on2 : Ones ys) (src : Src P w i.size k u ys)
  {mu : Bool} {r : V} {S' : St} (ha : appendTo S i.size i.bytes mu k xs s = some (r, S')) :
  ∃ v' w' g', (Builtin.append_ #[t, t2] ty #[v, u]).run P w = .ok v' w' ∧ g.le g' ∧ RelW w0 g' S' w' ∧ RelV g' r v' := by
 unfold appendTo at ha
 split at ha
 ·rename_i cs m sz' tk
  split at ha
  ·cases ha
  rename_i hcond
  have hlx : xs.length = k * i.size := Decidable.byContradiction fun h => hcond (.inr (.inl h))
  have hroom : (m + k) * i.bytes ≤ 140737488355328 := by
   have : roomOk (m + k) i.bytes = true := by
    cases h : roomOk (m + k) i.bytes with
    | true => rfl
    | false => exact absurd (.inr (.inr h)) hcond
   simpa [roomOk] using this
  obtain ⟨hlen, hs⟩ := hs
  rcases hs with ⟨rfl, rfl, rfl, rfl⟩ | ⟨htk, b, p, cap, us, rfl, hc, hr, on, ic, hcap, htok⟩ | ⟨htk, rfl, rfl, x0, rfl⟩
  rotate_right
  ·-- a row without places
   have hsz : sz' = i.size := Decidable.byContradiction fun h => hcond (.inl ⟨(by rcases htk with h | h <;> (rw [h]; intro hh; cases hh)), h⟩)
   subst hsz
   have same : ∀ (hk0 : k = 0), (Builtin.append_ #[t, t2] ty #[.slice (some x0) 0 0, u]).run P w = .ok (.slice (some x0) 0 0) w := fun hk0 => by
    subst hk0
    have hy : ys = [] := List.eq_nil_of_length_eq_zero (by simpa using src.len)
    subst hy
    have hzz : (match d2 with | .int _ => true | _ => false) = false := by cases d2 <;> first | rfl | exact absurd rfl (hni _)
    have hst : (storeCells (x0.add (0 * i.size)) []).run P w = .ok () w := rfl
    simp only [Nat.zero_mul] at hst
    simp [Builtin.append_, run_underlying ht, run_underlying ht2, Go.sizeOf, typeInfo, hi, hzz, src.lenOf, src.cells w rfl, hst]
   rcases htk with rfl | rfl
   ·simp only at ha
    split at ha
    ·rename_i hk
     injection ha with ha; injection ha with e1 e2; subst e1; subst e2
     exact ⟨_, w, g, same hk, G.le.refl g, hW, hlen, .inr (.inr ⟨.inl rfl, rfl, rfl, x0, rfl⟩)⟩
    ·cases ha
   ·simp only at ha
    split at ha
    ·rename_i hk
     injection ha with ha; injection ha with e1 e2; subst e1; subst e2
     exact ⟨_, w, g, same hk, G.le.refl g, hW, hlen, .inr (.inr ⟨.inr rfl, rfl, rfl, x0, rfl⟩)⟩
    ·rename_i hk
     injection ha with ha
     obtain ⟨g', l, h, rv⟩ := sim_grown hW (cs := []) (us := []) rfl (fun _ hx => by cases hx) hr2 on2 (m := 0) (k := k) (sz := i.size) (by simp) src.len mu hzs e (grownCap_ge w (0 + k) 0 e)
     refine ⟨_, _, g', run_append_grow' (us := []) ht ht2 hni hi hz (by simp) (.inl rfl) src (by omega) hby hroom, l, ?_, ?_⟩
     ·have : S' = (grown S mu ([] ++ xs) (0 + k) i.size).2 := by rw [ha]
      rw [this]; exact h
     ·have : r = (grown S mu ([] ++ xs) (0 + k) i.size).1 := by rw [ha]
      rw [this]; exact rv
  ·-- nil
   simp only at ha
   split at ha
   ·rename_i hk
    subst hk
    injection ha with ha; injection ha with e1 e2; subst e1; subst e2
    exact ⟨_, w, g, run_append_none' ht ht2 hni hi src, G.le.refl g, hW, ⟨by simp, .inl ⟨rfl, rfl, rfl, rfl⟩⟩⟩
   ·rename_i hk
    injection ha with ha
    obtain ⟨g', l, h, rv⟩ := sim_grown hW (cs := []) (us := []) rfl (fun _ hx => by cases hx) hr2 on2 (m := 0) (k := k) (sz := i.size) (by simp) src.len mu hzs e (grownCap_ge w (0 + k) 0 e)
    refine ⟨_, _, g', run_append_grow' (us := []) ht ht2 hni hi hz (by simp) (.inl rfl) src (by omega) hby hroom, l, ?_, ?_⟩
    ·have : S' = (grown S mu ([] ++ xs) (0 + k) i.size).2 := by rw [ha]
     rw [this]; exact h
    ·have : r = (grown S mu ([] ++ xs) (0 + k) i.size).1 := by rw [ha]
     rw [this]; exact rv
  ·have hsz : sz' = i.size := Decidable.byContradiction fun h => hcond (.inl ⟨htk, h⟩)
   subst hsz
   have hlu : us.length = m * i.size := by rw [← hr.len, hlen]
   have grow : ∀ S1 : St, RelW w0 g S1 w → cap < m + k → ∀ mu', ∃ v' w' g', (Builtin.append_ #[t, t2] ty #[.slice (some ⟨b, p, none⟩) m cap, u]).run P w = .ok v' w' ∧ g.le g' ∧
     RelW w0 g' (grown S1 mu' (cs ++ xs) (m + k) i.size).2 w' ∧ RelV g' (grown S1 mu' (cs ++ xs) (m + k) i.size).1 v' := fun S1 hW1 hlt mu' => by
    obtain ⟨g', l, h, rv⟩ := sim_grown hW1 hr on hr2 on2 hlu src.len mu' hzs e (grownCap_ge w (m + k) cap e)
    exact ⟨_, _, g', run_append_grow' ht ht2 hni hi hz hlu (.inr ⟨b, p, rfl, hW.reads ic⟩) src hlt hby hroom, l, h, rv⟩
   have same : ∀ (hk0 : k = 0), ∃ w', (Builtin.append_ #[t, t2] ty #[.slice (some ⟨b, p, none⟩) m cap, u]).run P w = .ok (.slice (some ⟨b, p, none⟩) m cap) w := fun hk0 => by
    subst hk0
    have hy : ys = [] := List.eq_nil_of_length_eq_zero (by simpa using src.len)
    subst hy
    have hzz : (match d2 with | .int _ => true | _ => false) = false := by cases d2 <;> first | rfl | exact absurd rfl (hni _)
    refine ⟨w, ?_⟩
    have hst : (storeCells (⟨b, p + m * i.size, none⟩ : Addr) []).run P w = .ok () w := rfl
    simp [Builtin.append_, run_underlying ht, run_underlying ht2, Go.sizeOf, typeInfo, hi, hzz, src.lenOf, hc, src.cells w rfl, add_at, hst]
   split at ha
   ·exact absurd rfl htk
   ·-- the capacity is the length
    split at ha
    ·rename_i hk
     injection ha with ha; injection ha with e1 e2; subst e1; subst e2
     obtain ⟨_, hrun⟩ := same hk
     exact ⟨_, w, g, hrun, G.le.refl g, hW, hlen, .inr (.inl ⟨htk, b, p, cap, us, rfl, hc, hr, on, ic, hcap, htok⟩)⟩
    ·rename_i hk
     injection ha with ha
     obtain ⟨v', w', g', e1, l, h, rv⟩ := grow S hW (by have := hcap rfl; omega) mu
     refine ⟨v', w', g', e1, l, ?_, ?_⟩
     ·rw [ha] at h; exact h
     ·rw [ha] at rv; exact rv
   ·-- a token
    rename_i q
    split at ha
    ·cases ha
    rename_i hmu
    split at ha <;> (try (cases ha; done))
    rename_i hlive
    injection ha with ha
    obtain ⟨hq1, hq10, hq2⟩ := htok q rfl
    by_cases hfit : m + k ≤ cap
    ·obtain ⟨_, hb0, o, ho, row, ty', fr', rfl, hf, hs, hfr⟩ := hW.hp q _ hlive
     have hWk := hW.kill q
     have hfreeq : ∀ j y, (S.kill q).hp j = some y → (g.loc j).1 ≠ (g.loc q).1 := fun j y hy => by
      simp only [St.kill] at hy
      split at hy
      ·cases hy
      ·rename_i hjq; exact hW.sep j q y _ hy hlive hjq
     by_cases hlt : m < cap
     ·obtain ⟨k1, k2, k3⟩ := hq2 hlt
      rw [hq10] at hb0 ho hs hfr hfreeq
      rw [k1] at hfr
      have hcs : (m + k) * i.size ≤ cap * i.size := Nat.mul_le_mul_right _ hfit
      rw [Nat.add_mul] at hcs
      have hin : p + m * i.size + ys.length ≤ row.size := by rw [src.len, hs]; omega
      have hrun := run_append_room' (ty := ty) (p := p) ht ht2 hni hi src on2 ho hf hfit hin
      let row' : Array Value := (row.toList.take (p + m * i.size) ++ ys ++ row.toList.drop (p + m * i.size + ys.length)).toArray
      have hrowsz : row'.size = row.size := by
       simp only [row', List.size_toArray, List.length_append, List.length_take, List.length_drop, Array.length_toList]
       omega
      have ho' : (w.setRow b row').heap[b]? = some (.cells row' ty' fr') := setRow_heapAny w b row row' ty' fr' ho
      have hlow : ∀ j, j < p + m * i.size → row'[j]? = row[j]? := fun j hj => by
       simp only [row', List.getElem?_toArray]
       rw [List.append_assoc, List.getElem?_append_left (by simp; omega), List.getElem?_take_of_lt hj, Array.getElem?_toList]
      have hmid : ∀ j v, ys[j]? = some v → row'[p + m * i.size + j]? = some v := fun j v hv => by
       have hj := (List.getElem?_eq_some_iff.1 hv).1
       simp only [row', List.getElem?_toArray]
       rw [List.getElem?_append_left (by simp; omega), List.getElem?_append_right (by simp; omega)]
       have : p + m * i.size + j - (List.take (p + m * i.size) row.toList).length = j := by simp; omega
       rw [this]
       exact hv
      have hW1 : RelW w0 g (S.kill q) (w.setRow b row') := hWk.write hfreeq (below_setRow' hW.below hb0 _) (by simp [World.setRow]) (fun x hx hne => setRow_far w b x row' hne) (fun j v hv => by
       have hold := hW.ice b j v hv
       rw [cell_of_row w b j row ty' fr' ho] at hold
       have hj : j < p + m * i.size := by
        rcases Nat.lt_or_ge j (p + m * i.size) with h | h
        ·exact h
        ·rw [hfr j h] at hv; cases hv
       rw [cell_of_row _ b j row' ty' fr' ho', hlow j hj]
       exact hold)
      have hicerow : ∀ j v, us[j]? = some v → row[p + j]? = some v := fun j v hv => by
       have := hW.ice b (p + j) v (ic j v hv)
       rwa [cell_of_row w b _ row ty' fr' ho] at this
      obtain ⟨g', l, h2, rv⟩ := fin_val (q := p) (n := m + k) (sz := i.size) (cap := cap) (cs := cs ++ xs) (us := us ++ ys) hW1 ho' (by rw [hrowsz]; exact hf) (by rw [hrowsz]; exact hs) hb0 hfreeq (hr.append hr2) (on.append on2)
       (fun j v hv => by
        rcases Nat.lt_or_ge j us.length with h | h
        ·rw [List.getElem?_append_left h] at hv
         rw [hlow (p + j) (by rw [← hlu]; omega)]
         exact hicerow j v hv
        ·rw [List.getElem?_append_right h] at hv
         have := hmid _ v hv
         rw [hlu] at this
         rwa [show p + m * i.size + (j - m * i.size) = p + j from by rw [hlu] at h; omega] at this)
       (fun j hj => hfr j (by rw [List.length_append, hlu] at hj; omega)) (by rw [List.length_append, hr.len, hr2.len, hlu, src.len, Nat.add_mul]) hfit (by rw [hrowsz, hs]; exact k3)
      refine ⟨_, _, g', hrun, l, ?_, ?_⟩
      ·have : S' = (grown (S.kill q) false (cs ++ xs) (m + k) i.size).2 := by rw [ha]
       rw [this]; exact h2
      ·have : r = (grown (S.kill q) false (cs ++ xs) (m + k) i.size).1 := by rw [ha]
       rw [this]; exact rv
     ·-- full, and nothing is appended
      have hk0 : k = 0 := by omega
      obtain ⟨_, hrun⟩ := same hk0
      have hmc : m = cap := by omega
      have hxs : xs = [] := List.eq_nil_of_length_eq_zero (by rw [hlx, hk0]; simp)
      have hadd : RelW w0 (g.obj (g.loc q).1 (g.loc q).2) ((S.kill q).add .tok) w := hWk.obj ho hb0 hfreeq ⟨row, ty', fr', rfl, hf, hs, hfr⟩
      have hle := le_obj g (g.loc q).1 (g.loc q).2
      refine ⟨_, w, _, hrun, hle, ?_, ?_⟩
      ·have : S' = (grown (S.kill q) false (cs ++ xs) (m + k) i.size).2 := by rw [ha]
       rw [this]; exact hadd
      ·have : r = (grown (S.kill q) false (cs ++ xs) (m + k) i.size).1 := by rw [ha]
       rw [this]
       simp only [grown, Bool.false_eq_true, if_false, hxs, List.append_nil, hk0, Nat.add_zero]
       refine ⟨hlen, .inr (.inl ⟨(by intro hh; cases hh), b, p, cap, us, rfl, hc, RelL_mono hle _ _ hr, on, ic.mono hle, fun hh => (by cases hh), fun x hx => ?_⟩)⟩
       injection hx with hx; subst hx
       refine ⟨by show S.n < g.n + 1; rw [hW.n]; omega, ?_, fun hh => (by omega)⟩
       show (if S.n = g.n then _ else _ : Nat × Nat).1 = b
       rw [if_pos hW.n.symm]; exact hq10
    ·obtain ⟨v', w', g', e1, l, h, rv⟩ := grow (S.kill q) (hW.kill q) (by omega) false
     refine ⟨v', w', g', e1, l, ?_, ?_⟩
     ·rw [ha] at h; exact h
     ·rw [ha] at rv; exact rv
   ·split at ha
    ·rename_i hk
     injection ha with ha; injection ha with e1 e2; subst e1; subst e2
     obtain ⟨_, hrun⟩ := same hk
     exact ⟨_, w, g, hrun, G.le.refl g, hW, hlen, .inr (.inl ⟨htk, b, p, cap, us, rfl, hc, hr, on, ic, hcap, htok⟩)⟩
    ·cases ha
 ·rename_i o off m sz'
  split at ha
  ·cases ha
  rename_i hcond
  have hsz : sz' = i.size := Decidable.byContradiction fun h => hcond (.inl h)
  have hlx : xs.length = k * i.size := Decidable.byContradiction fun h => hcond (.inr (.inl h))
  have hroom : (m + k) * i.bytes ≤ 140737488355328 := by
   have : roomOk (m + k) i.bytes = true := by
    cases h : roomOk (m + k) i.bytes with
    | true => rfl
    | false => exact absurd (.inr (.inr h)) hcond
   simpa [roomOk] using this
  subst hsz
  obtain ⟨cs, hcs, ha⟩ := Option.bind_eq_some_iff.1 ha
  split at ha
  ·rename_i hin
   injection ha with ha
   obtain ⟨ho1, cap, rfl, hc, hb1, hb2⟩ := hs
   have hlive : S.hp o = some (.cells cs) := by
    unfold St.cells at hcs
    split at hcs
    ·rename_i heq; injection hcs with hcs; subst hcs; exact heq
    ·cases hcs
   obtain ⟨_, hb0, ob, ho, row, ty', fr', rfl, hf, hs, hni', zs, hrz, onz, hrow⟩ := hW.hp o _ hlive
   let us := (zs.drop off).take (m * i.size)
   have hr : RelL g ((cs.drop off).take (m * i.size)) us := (hrz.drop off).take _
   have on : Ones us := (onz.drop off).take _
   have hlu : us.length = m * i.size := by
    simp only [us, List.length_take, List.length_drop]
    rw [← hrz.len]; omega
   have hus : ∀ j v, us[j]? = some v → row[(g.loc o).2 + off + j]? = some v := fun j v hv => by
    simp only [us, List.getElem?_take, List.getElem?_drop] at hv
    split at hv
    ·have := hrow _ v hv
     rwa [← Nat.add_assoc] at this
    ·cases hv
   have hWk := hW.kill o
   have hfree : ∀ j y, (S.kill o).hp j = some y → (g.loc j).1 ≠ (g.loc o).1 := fun j y hy => by
    simp only [St.kill] at hy
    split at hy
    ·cases hy
    ·rename_i hjq; exact hW.sep j o y _ hy hlive hjq
   have rd : Reads w (g.loc o).1 ((g.loc o).2 + off) us := fun j v hv => by
    rw [cell_of_row w _ _ row ty' fr' ho]
    exact hus j v hv
   by_cases hfit : m + k ≤ cap
   ·have hcsz : (m + k) * i.size ≤ cap * i.size := Nat.mul_le_mul_right _ hfit
    rw [Nat.add_mul] at hcsz
    have hin2 : (g.loc o).2 + off + m * i.size + ys.length ≤ row.size := by rw [src.len, hs]; omega
    have hrun := run_append_room' (ty := ty) (p := (g.loc o).2 + off) ht ht2 hni hi src on2 ho hf hfit hin2
    generalize hp : (g.loc o).2 + off = p at *
    generalize hbb : (g.loc o).1 = b at *
    let row' : Array Value := (row.toList.take (p + m * i.size) ++ ys ++ row.toList.drop (p + m * i.size + ys.length)).toArray
    have hrowsz : row'.size = row.size := by
     simp only [row', List.size_toArray, List.length_append, List.length_take, List.length_drop, Array.length_toList]
     omega
    have ho' : (w.setRow b row').heap[b]? = some (.cells row' ty' fr') := setRow_heapAny w b row row' ty' fr' ho
    have hlow : ∀ j, j < p + m * i.size → row'[j]? = row[j]? := fun j hj => by
     simp only [row', List.getElem?_toArray]
     rw [List.append_assoc, List.getElem?_append_left (by simp; omega), List.getElem?_take_of_lt hj, Array.getElem?_toList]
    have hmid : ∀ j v, ys[j]? = some v → row'[p + m * i.size + j]? = some v := fun j v hv => by
     have hj := (List.getElem?_eq_some_iff.1 hv).1
     simp only [row', List.getElem?_toArray]
     rw [List.getElem?_append_left (by simp; omega), List.getElem?_append_right (by simp; omega)]
     have : p + m * i.size + j - (List.take (p + m * i.size) row.toList).length = j := by simp; omega
     rw [this]
     exact hv
    have hW1 : RelW w0 g (S.kill o) (w.setRow b row') := hWk.write hfree (below_setRow' hW.below hb0 _) (by simp [World.setRow]) (fun x hx hne => setRow_far w b x row' hne) (fun j v hv => by rw [hni' j] at hv; cases hv)
    have hrow2 : ∀ (j : Nat) (v : Value), (us ++ ys)[j]? = some v → row'[p + j]? = some v := fun j v hv => by
     rcases Nat.lt_or_ge j us.length with h | h
     ·rw [List.getElem?_append_left h] at hv
      rw [hlow (p + j) (by rw [← hlu]; omega)]
      exact hus j v hv
     ·rw [List.getElem?_append_right h] at hv
      have := hmid _ v hv
      rw [hlu] at this
      rwa [show p + m * i.size + (j - m * i.size) = p + j from by rw [hlu] at h; omega] at this
    have hb2' : p + cap * i.size ≤ row'.size := by rw [hrowsz, hs]; exact hb2
    cases mu with
    | false =>
     obtain ⟨g', l, h2, rv⟩ := fin_val (q := p) (n := m + k) (sz := i.size) (cap := cap) hW1 ho' (by rw [hrowsz]; exact hf) (by rw [hrowsz]; exact hs) hb0 hfree (hr.append hr2) (on.append on2) hrow2
      (fun j hj => hni' j) (by rw [List.length_append, hr.len, hr2.len, hlu, src.len, Nat.add_mul]) hfit hb2'
     refine ⟨_, _, g', hrun, l, ?_, ?_⟩
     ·rw [show S' = (grown (S.kill o) false (List.take (m * i.size) (List.drop off cs) ++ xs) (m + k) i.size).2 from by rw [ha]]; exact h2
     ·rw [show r = (grown (S.kill o) false (List.take (m * i.size) (List.drop off cs) ++ xs) (m + k) i.size).1 from by rw [ha]]; exact rv
    | true =>
     obtain ⟨g', l, h2, rv, _⟩ := fin_mut (q := p) (n := m + k) (sz := i.size) (cap := cap) hW1 ho' (by rw [hrowsz]; exact hf) (by rw [hrowsz]; exact hs) hb0 hfree (hr.append hr2) (on.append on2) hrow2 hni' hfit hb2'
     refine ⟨_, _, g', hrun, l, ?_, ?_⟩
     ·rw [show S' = (grown (S.kill o) true (List.take (m * i.size) (List.drop off cs) ++ xs) (m + k) i.size).2 from by rw [ha]]; exact h2
     ·rw [show r = (grown (S.kill o) true (List.take (m * i.size) (List.drop off cs) ++ xs) (m + k) i.size).1 from by rw [ha]]; exact rv
   ·obtain ⟨g', l, h, rv⟩ := sim_grown hWk hr on hr2 on2 hlu src.len mu hzs e (grownCap_ge w (m + k) cap e)
    refine ⟨_, _, g', run_append_grow' ht ht2 hni hi hz hlu (.inr ⟨_, _, rfl, rd⟩) src (by omega) hby hroom, l, ?_, ?_⟩
    ·rw [show S' = (grown (S.kill o) mu (List.take (m * i.size) (List.drop off cs) ++ xs) (m + k) i.size).2 from by rw [ha]]; exact h
    ·rw [show r = (grown (S.kill o) mu (List.take (m * i.size) (List.drop off cs) ++ xs) (m + k) i.size).1 from by rw [ha]]; exact rv
  ·cases ha
 ·cases ha
end
end Go.VM
namespace Go.VM
open Go Go.RowKit
def chkRow (P : Program) (e : TypeId) (len sz : Nat) (zero : List V) : Bool := match P.info? e with
 | some i => match i.zero with
  | some z => decide (z.cells.size = sz) && chkL ((Array.range (len * sz)).map fun k => z.cells[k % z.cells.size]!).toList zero
  | none => false
 | none => false
def chkEI (P : Program) (n : Nat) (o : Op) (i : EI) : Bool :=
 match i with
 | .alloc zero => match o with
  | .alloc t => chkZero P t zero
  | _ => false
 | .box x' => match o with
  | .box t x => chkA n x x'
  | _ => false
 | .buildSlice len' sz how zero parts => match o with
  | .buildSlice t len ps => decide (len = len') && decide (len * sz ≤ 16777216) && (match P.underlying t with
   | some (.slice e) => decide (szOf P e = some sz) && chkRow P e len sz zero && chkParts P n (fun i => some (i * sz, sz)) ps.toList parts
   | _ => false)
  | _ => false
 | .store sz a' x' => match o with
  | .store t a x => decide (szOf P t = some sz) && chkA n a a' && chkA n x x'
  | _ => false
 | .append sz bytes mu s' x' => match o with
  | .call { callee := .builtin .append, args := xs, argTypes := ts } => (match xs.toList, ts.toList with
   | [s, x], [t, t2] => chkA n s s' && chkA n x x' && decide (bytes ≠ 0) && (match P.underlying t2 with | some (.int _) => false | some _ => true | none => false) && (match P.underlying t with
    | some (.slice e) => (match P.info? e with
     | some i => decide (i.size = sz) && decide (i.bytes = bytes) && (match i.zero with | some z => decide (z.cells.size = sz) | none => false)
     | none => false)
    | _ => false)
   | _, _ => false)
  | _ => false
 | .copy sz d' s' => match o with
  | .call { callee := .builtin .copy, args := xs, argTypes := ts } => (match xs.toList, ts.toList with
   | [d, s], t :: _ => chkA n d d' && chkA n s s' && (match P.underlying t with | some (.slice e) => decide (szOf P e = some sz) | _ => false)
   | _, _ => false)
  | _ => false
 | .makeSlice sz bytes mu zero l' c' => match o with
  | .makeSlice t l c => chkA n l l' && chkA n c c' && decide (bytes ≠ 0) && decide (sz ≠ 0) && (match P.underlying t with
   | some (.slice e) => (match P.info? e with
    | some i => decide (i.size = sz) && decide (i.bytes = bytes) && (match i.zero with | some z => decide (z.cells.size = sz) && chkL z.cells.toList zero | none => false)
    | none => false)
   | _ => false)
  | _ => false
 | .makeMap => match o with
  | .makeMap _ none => true
  | _ => false
 | .mapSet kk m' k' v' => match o with
  | .mapUpdate t m k v | .insert t m k v => chkA n m m' && chkA n k k' && chkA n v v' && (match P.underlying t with | some (.map kt _) => keyKind P kt kk | _ => false)
  | _ => false
 | .delete kk m' k' => match o with
  | .call { callee := .builtin .delete, args := xs, argTypes := ts } => (match xs.toList, ts.toList with
   | [m, k], t :: _ => chkA n m m' && chkA n k k' && (match P.underlying t with | some (.map kt _) => keyKind P kt kk | _ => false)
   | _, _ => false)
  | _ => false
 | .range x' => match o with
  | .range t x => chkA n x x' && (match P.underlying t with | some (.map ..) => true | _ => false)
  | _ => false
 | .next x' => match o with
  | .next x false => chkA n x x'
  | _ => false
 | .strBytes x' => match o with
  | .convert src dst x => chkA n x x' && (match P.underlying src, P.underlying dst with
   | some .string, some (.slice e) => (match P.underlying e with | some (.int .u8) => decide (szOf P e = some 1) | _ => false)
   | _, _ => false)
  | _ => false
 | .bytesSame x' => match o with
  | .convert src dst x => chkA n x x' && decide (src = dst) && (match P.underlying src with
   | some (.slice e) => (match P.underlying e with | some (.int .u8) => true | _ => false)
   | _ => false)
  | _ => false
 | .frz x' => match o with
  | .move x | .assign x => chkA n x x'
  | _ => false
 | .call f' args' => match o with
  | .call { callee := .value (.func f), args := xs, argTypes := _ } => decide (f = f') && chkAs n xs.toList args'
  | _ => false
 | .callV x' args' => match o with
  | .call { callee := .value x, args := xs, argTypes := _ } => chkA n x x' && chkAs n xs.toList args'
  | _ => false
 | .panic x' => match o with
  | .call { callee := .builtin .panic, args := xs, argTypes := _ } => (match xs.toList with | [x] => chkA n x x' | _ => false)
  | _ => false
def RelEnd (g : G) : AEnd → Ending → Prop
 | .ret v, .returned u => RelV g v u
 | .pan v, .panicked c => ∃ u, c = [{ v := u, recovered := false }] ∧ RelV g v u
 | _, _ => False
def Enters (P : Program) (f : FuncId) : Prop := ∃ fn, P.funcs[f]? = some fn ∧ fn.body.isNone = false ∧ (fn.name == "runtime.NumGoroutine") = false
def RSim (P : Program) (w0 : World) : Cl := fun f args S Q =>
 Enters P f ∧ ∀ g w us, RelW w0 g S w → RelL g args us → Calls P f us.toArray w fun e w' => ∃ g' S' e', g.le g' ∧ RelW w0 g' S' w' ∧ RelEnd g' e' e ∧ Q e' S'
def Done (P : Program) (w0 : World) (o : Oper) (a : Act) (g : G) (w : World) (K : V → St → Prop) : Prop :=
 ∃ u w' g' v S', ((execOp a.eval o).run P w = .ok (.value u) w' ∨ ((execOp a.eval o).run P w = .ok .skip w' ∧ u = undef)) ∧ g.le g' ∧ RelW w0 g' S' w' ∧ RelV g' v u ∧ K v S'
theorem run_setAny {P : Program} {w : World} {r : Nat} {o o' : Obj} (h : w.heap[r]? = some o) (hn : ∀ c e f, o ≠ .cells c e f) : (setObj r o').run P w = .ok () { w with heap := w.heap.setIfInBounds r o' } := by
 cases o <;> first | exact absurd rfl (hn _ _ _) | simp [setObj, Sem.run, h]
theorem set_heap (w : World) (r : Nat) (o' : Obj) (h : r < w.heap.size) : ({ w with heap := w.heap.setIfInBounds r o' } : World).heap[r]? = some o' := by simp [h]
theorem set_far (w : World) (r k : Nat) (o' : Obj) (h : k ≠ r) : ({ w with heap := w.heap.setIfInBounds r o' } : World).heap[k]? = w.heap[k]? := by
 simp [Array.getElem?_setIfInBounds_ne (Ne.symm h)]
theorem below_set {B r : Nat} {w0 w : World} (h : Below B w0 w) (hb : B ≤ r) (o' : Obj) : Below B w0 { w with heap := w.heap.setIfInBounds r o' } :=
 h.trans ⟨rfl, rfl, rfl, by simp, fun k hk => set_far w r k o' (by omega)⟩
section
variable {P : Program} {w0 w : World} {g : G} {S : St} {n : Nat} {fr : Fr} {a : Act}
theorem RelW.setObj (h : RelW w0 g S w) {i : Nat} {x x' : AObj} (hx : S.hp i = some x) {o o' : Obj} (ho : w.heap[(g.loc i).1]? = some o) (hn : ∀ c e f, o ≠ .cells c e f) (hx' : RelO g (g.loc i).1 (g.loc i).2 x' o') :
  RelW w0 g (S.set i x') { w with heap := w.heap.setIfInBounds (g.loc i).1 o' } := by
 have hb := (h.hp i x hx).2.1
 refine h.upd hx (below_set h.below hb o') (by simp) (fun k _ hk => set_far w _ k o' hk) (set_heap w _ o' (h.lt hx)) (fun p u hu => ?_) hx'
 exfalso
 have := h.ice _ p u hu
 unfold World.cell? at this
 simp only [ho] at this
 cases o <;> first | exact absurd rfl (hn _ _ _) | cases this
theorem RelW.newObj (h : RelW w0 g S w) {x : AObj} {o : Obj} (hx : ∀ g', g.le g' → RelO g' w.heap.size 0 x o) : RelW w0 ((g.block #[] 0).obj w.heap.size 0) (S.add x) (w.alloc o) ∧ g.le ((g.block #[] 0).obj w.heap.size 0) := by
 have hle := (le_block h #[] 0).trans (le_obj (g.block #[] 0) w.heap.size 0)
 have h1 : RelW w0 (g.block #[] 0) S (w.alloc o) := by
  have hle := le_block h #[] 0
  refine ⟨h.below.alloc h.below.size _, by simp [G.block, h.nb], h.n, fun b p u hu => ?_, fun i x hx => ?_, h.sep⟩
  ·simp only [G.block] at hu
   split at hu
   ·split at hu <;> (try (cases hu; done))
   ·have := h.ice b p u hu
    rw [World.cell?_alloc_lt w _ _ (h.iceLt hu)]
    exact this
  ·obtain ⟨h1, h2, o, h3, h4⟩ := h.hp i x hx
   have hlt := h.lt hx
   refine ⟨h1, h2, o, ?_, h4.mono hle (by rw [h.nb]; exact hlt) (fun p => ?_)⟩
   ·show (w.alloc _).heap[(g.loc i).1]? = _
    refine (Below.heap_alloc w _ _ hlt).trans ?_
    exact h3
   ·simp only [G.block]
    rw [if_neg (by rw [h.nb]; exact Nat.ne_of_lt hlt)]
 refine ⟨h1.obj (heap_alloc_new w o) h.below.size (fun i y hy => ?_) (hx _ hle), hle⟩
 have := h.lt hy
 show (g.loc i).1 ≠ _
 omega
theorem ba_beq (a b : ByteArray) : (a == b) = true ↔ a = b := by
 obtain ⟨⟨a⟩⟩ := a; obtain ⟨⟨b⟩⟩ := b
 constructor
 ·intro h
  have : ((⟨a⟩ : Array UInt8) == ⟨b⟩) = true := h
  simpa using this
 ·intro h; cases h
  show ((⟨a⟩ : Array UInt8) == ⟨a⟩) = true
  simp
theorem key_same {kk : KK} {x y : V} {u u' : Value} (hx : RelV g x u) (hy : RelV g y u') (h : V.keyEq kk x y = some true) : Instr.sameBits 10000 u' u = true := by
 unfold V.keyEq at h
 split at h <;> (try (cases h; done))
 all_goals (split at h <;> (try (cases h; done)))
 ·rename_i hh
  obtain ⟨_, rfl⟩ := hh
  rw [rel_int hx, rel_int hy]
  simp at h
  simp [Instr.sameBits, h]
 ·rw [rel_str hx, rel_str hy]
  injection h with h
  have := (ba_beq _ _).1 h
  subst this
  exact (ba_beq _ _).2 rfl
 ·rw [rel_bool hx, rel_bool hy]
  simp at h
  simp [Instr.sameBits, h]
end
end Go.VM
namespace Go.VM
open Go Go.RowKit
def EI.quiet : EI → Bool
 | .call .. | .callV .. | .panic .. => false
 | _ => true
section
variable {P : Program} {w0 w : World} {g : G} {S : St} {n : Nat} {fr : Fr} {a : Act}
theorem St.cells_hp {S : St} {i : Nat} {cs : List V} (h : S.cells i = some cs) : S.hp i = some (.cells cs) := by
 unfold St.cells at h
 split at h
 ·rename_i heq; injection h with h; subst h; exact heq
 ·cases h
theorem RelW.store (hW : RelW w0 g S w) {i : Nat} {cs : List V} (hc : S.cells i = some cs) {off : Nat} {xs : List V} {ys : List Value} (hr : RelL g xs ys) (on : Ones ys) (hfit : off + xs.length ≤ cs.length) :
  ∃ w', (storeCells ⟨(g.loc i).1, (g.loc i).2 + off, none⟩ ys).run P w = .ok () w' ∧ RelW w0 g (S.set i (.cells (splice cs off xs))) w' := by
 have hlive := St.cells_hp hc
 obtain ⟨_, hb0, ob, ho, row, ty, fr, rfl, hf, hs, hni, zs, hrz, onz, hrow⟩ := hW.hp i _ hlive
 have hzl : zs.length = cs.length := hrz.len.symm
 have hxy : xs.length = ys.length := hr.len
 rcases Nat.eq_zero_or_pos ys.length with h0 | h0
 ·obtain rfl : ys = [] := List.eq_nil_of_length_eq_zero h0
  obtain rfl : xs = [] := List.eq_nil_of_length_eq_zero hxy
  refine ⟨w, rfl, ?_⟩
  have : splice cs off [] = cs := by simp [splice]
  rw [this]
  exact hW.upd hlive hW.below rfl (fun _ _ _ => rfl) ho (fun p u hu => by rw [hni] at hu; cases hu) ⟨row, ty, fr, rfl, hf, hs, hni, zs, hrz, onz, hrow⟩
 ·have hlast : (g.loc i).2 + zs.length ≤ row.size := by
   have h1 : zs[zs.length - 1]? = some (zs[zs.length - 1]'(by omega)) := List.getElem?_eq_getElem (by omega)
   have h2 := hrow _ _ h1
   have h3 := (Array.getElem?_eq_some_iff.1 h2).1
   omega
  generalize hp : (g.loc i).2 + off = p
  have hrun := run_storeCells_any (P := P) (g.loc i).1 p ty fr ys 0 row w ho hf (by omega) on
  simp only [Nat.add_zero] at hrun
  generalize hr' : (row.toList.take p ++ ys ++ row.toList.drop (p + ys.length)).toArray = row' at hrun
  have hsz : row'.size = row.size := by
   rw [← hr']
   simp only [List.size_toArray, List.length_append, List.length_take, List.length_drop, Array.length_toList]
   omega
  have ho' : (w.setRow (g.loc i).1 row').heap[(g.loc i).1]? = some (.cells row' ty fr) := setRow_heapAny w _ row row' ty fr ho
  refine ⟨_, hrun, hW.upd hlive (below_setRow' hW.below hb0 _) (by simp [World.setRow]) (fun k _ hk => setRow_far w _ k row' hk) ho' (fun p u hu => by rw [hni] at hu; cases hu)
   ⟨row', ty, fr, rfl, by rw [hsz]; exact hf, by rw [hsz]; exact hs, hni, zs.take off ++ ys ++ zs.drop (off + ys.length), splice_rel hrz hr off, ((onz.take _).append on).append (onz.drop _), fun j v hv => ?_⟩⟩
  rw [← hr']
  simp only [List.getElem?_toArray]
  rcases Nat.lt_or_ge j off with h1 | h1
  ·rw [List.append_assoc, List.getElem?_append_left (by simp; omega), List.getElem?_take_of_lt h1] at hv
   rw [List.append_assoc, List.getElem?_append_left (by simp; omega), List.getElem?_take_of_lt (by omega), Array.getElem?_toList]
   exact hrow j v hv
  ·rcases Nat.lt_or_ge j (off + ys.length) with h2 | h2
   ·rw [List.getElem?_append_left (by simp; omega), List.getElem?_append_right (by simp; omega)] at hv
    rw [List.getElem?_append_left (by simp; omega), List.getElem?_append_right (by simp; omega)]
    have e1 : (zs.take off).length = off := by simp; omega
    have e2 : (row.toList.take p).length = p := by simp; omega
    rw [e1] at hv
    rw [e2, show (g.loc i).2 + j - p = j - off from by omega]
    exact hv
   ·rw [List.getElem?_append_right (by simp; omega)] at hv
    rw [List.getElem?_append_right (by simp; omega)]
    have e1 : (zs.take off ++ ys).length = off + ys.length := by simp; omega
    have e2 : (row.toList.take p ++ ys).length = p + ys.length := by simp; omega
    rw [e1, List.getElem?_drop] at hv
    rw [e2, List.getElem?_drop, Array.getElem?_toList]
    rw [show off + ys.length + (j - (off + ys.length)) = j from by omega] at hv
    rw [show p + ys.length + ((g.loc i).2 + j - (p + ys.length)) = (g.loc i).2 + j from by omega]
    exact hrow j v hv
theorem madeCells_rel {zero : List V} {z : Array Value} (hr : RelL g zero z.toList) (on : Ones z.toList) (c : Nat) :
  RelL g (List.replicate c zero).flatten ((Array.range (c * z.size)).map fun k => z[k % z.size]!).toList ∧ Ones ((Array.range (c * z.size)).map fun k => z[k % z.size]!).toList := by
 have key : ((Array.range (c * z.size)).map fun k => z[k % z.size]!).toList = (List.replicate c z.toList).flatten := by
  induction c with
  | zero => simp
  | succ c ih =>
   rw [List.replicate_succ', List.flatten_concat, ← ih]
   simp only [Array.toList_map, Array.toList_range]
   rw [Nat.add_mul, Nat.one_mul, List.range_add, List.map_append, List.map_map]
   congr 1
   apply List.ext_getElem
   ·simp
   ·intro i h1 h2
    simp at h1
    simp [Nat.mul_comm c, Nat.mul_add_mod, Nat.mod_eq_of_lt h1, h1]
 rw [key]
 constructor
 ·have flat : ∀ c, RelL g (List.replicate c zero).flatten (List.replicate c z.toList).flatten := fun c => by
   induction c with
   | zero => rfl
   | succ c ih =>
    simp only [List.replicate_succ, List.flatten_cons]
    exact hr.append ih
  exact flat c
 ·intro u hu
  obtain ⟨l, hl, hul⟩ := List.mem_flatten.1 hu
  rw [(List.mem_replicate.1 hl).2] at hul
  exact on u hul
theorem done_value {o : Oper} {u : Value} {w' : World} {g' : G} {v : V} {S' : St} {K : V → St → Prop} (hr : (execOp a.eval o).run P w = .ok (.value u) w') (hl : g.le g') (hw : RelW w0 g' S' w') (hv : RelV g' v u) (hk : K v S') : Done P w0 o a g w K :=
 ⟨u, w', g', v, S', .inl hr, hl, hw, hv, hk⟩
theorem done_skip {o : Oper} {w' : World} {g' : G} {S' : St} {K : V → St → Prop} (hr : (execOp a.eval o).run P w = .ok .skip w') (hl : g.le g') (hw : RelW w0 g' S' w') (hk : K (.tup []) S') : Done P w0 o a g w K :=
 ⟨undef, w', g', .tup [], S', .inr ⟨hr, rfl⟩, hl, hw, ⟨[], rfl, rfl⟩, hk⟩
theorem rel_row {e : TypeId} {len sz : Nat} {zero : List V} (h : chkRow P e len sz zero = true) (w : World) : ∃ z, (zeroValue e).run P w = .ok z w ∧ z.cells.size = sz ∧
  RelL g zero ((Array.range (len * sz)).map fun k => z.cells[k % z.cells.size]!).toList ∧ Ones ((Array.range (len * sz)).map fun k => z.cells[k % z.cells.size]!).toList := by
 unfold chkRow at h
 split at h <;> (try (cases h; done))
 rename_i i hi
 split at h <;> (try (cases h; done))
 rename_i z hz
 simp only [Bool.and_eq_true, decide_eq_true_eq] at h
 obtain ⟨h1, h2⟩ := h
 obtain ⟨r, on⟩ := chkL_rel g h2
 exact ⟨z, by simp [zeroValue, typeInfo, hi, hz], h1, r, on⟩
theorem simQuietE (cl : Cl) (hW : RelW w0 g S w) (hF : RelF g n fr a.tmps) {o : Oper} {i : EI} (hc : chkEI P n o.op i = true) {K Kp : V → St → Prop} (h : wE cl i fr S K Kp) (hq : i.quiet = true) : Done P w0 o a g w K := by
 cases i with
 | call => cases hq
 | callV => cases hq
 | panic => cases hq
 | alloc zero =>
  simp only [chkEI] at hc
  split at hc
  ·rename_i t ho
   simp only [wE] at h
   obtain ⟨z, ez, rz, oz⟩ := zero_run (P := P) (g := g) hc w
   obtain ⟨g', l, h', _, rv⟩ := new_obj (n := zero.length) (sz := 1) hW rz oz t (by simp)
   refine done_value (w' := w.alloc (.cells z.cells t)) (u := .pointer (some ⟨w.heap.size, 0, none⟩)) ?_ l (by simpa using h') rv h
   simp [execOp, ho, Instr.alloc, ez, newVar, newRow]
  ·cases hc
 | box x' =>
  simp only [chkEI] at hc
  split at hc
  ·rename_i t x ho
   simp only [wE] at h
   obtain ⟨h1, h2⟩ := h
   obtain ⟨r, on⟩ := cells_rel (chkA_rel hF hc) h1
   obtain ⟨g', l, h', _, rv⟩ := new_obj (n := (x'.ev fr).cells.length) (sz := 1) hW r on t (by simp)
   refine done_value (w' := w.alloc (.cells (a.eval x).cells t)) (u := .pointer (some ⟨w.heap.size, 0, none⟩)) ?_ l (by simpa using h') rv h2
   simp [execOp, ho, Instr.box, newVar, newRow]
  ·cases hc
 | buildSlice len' sz how zero parts =>
  simp only [chkEI] at hc
  split at hc
  ·rename_i t len ps ho
   simp only [Bool.and_eq_true, decide_eq_true_eq] at hc
   obtain ⟨⟨rfl, h1⟩, h2⟩ := hc
   split at h2 <;> (try (cases h2; done))
   rename_i e ht
   simp only [Bool.and_eq_true, decide_eq_true_eq] at h2
   obtain ⟨⟨hs, h3⟩, h4⟩ := h2
   simp only [wE] at h
   split at h <;> (try (cases h; done))
   rename_i cs hcs
   obtain ⟨z, ez, hz, rz, oz⟩ := rel_row (g := g) h3 w
   obtain ⟨us, e1, r, on⟩ := fill_rel hF h4 hcs rz oz
   have hlen : cs.length = len * sz := by
    have key : ∀ (parts : List (Nat × Nat × Arg)) (zero cs : List V), fillV fr zero parts = some cs → cs.length = zero.length := by
     intro parts
     induction parts with
     | nil => intro zero cs h; simp only [fillV] at h; injection h with h; rw [h]
     | cons p ps ih =>
      intro zero cs h
      obtain ⟨off, s, x⟩ := p
      simp only [fillV] at h
      split at h
      ·rename_i hh
       rw [ih _ _ h, splice]
       simp; omega
      ·cases h
    rw [key _ _ _ hcs, rz.len]
    simp
   have hrun : (execOp a.eval o).run P w = .ok (.value (.slice (some ⟨w.heap.size, 0, none⟩) len len)) (w.alloc (.cells us e)) := by
    have hle : ¬ (len * sz > 2 ^ 24) := by omega
    have hps : (ps.map fun (i, x) => (i, a.eval x)).toList = ps.toList.map fun q => (q.1, a.eval q.2) := by simp
    by_cases h0 : len * sz = 0
    ·have e1' := e1
     rw [h0] at e1'
     simp only [execOp, ho, Instr.buildSlice, Sem.run_bind, run_underlying ht, Result.andThen_ok, szOf_run hs]
     simp only [h0]
     have hz0 : ∀ f : Nat → Value, (Array.range 0).map f = #[] := fun f => by simp
     rw [hz0] at e1'
     simp only [hz0, hps, e1', newRow]
     simp
    ·simp only [execOp, ho, Instr.buildSlice, Sem.run_bind, run_underlying ht, Result.andThen_ok, szOf_run hs]
     rw [if_neg hle, if_neg h0]
     simp only [Sem.run_bind, ez, Result.andThen_ok, Sem.run_pure, hps, e1, newRow]
     rfl
   split at h
   ·obtain ⟨g', l, h', rv⟩ := new_cap hW r on e hlen
    exact done_value hrun l (by simpa using h') rv h
   ·obtain ⟨g', l, h', rv, _⟩ := new_obj hW r on e hlen
    exact done_value hrun l (by simpa using h') rv h
   ·obtain ⟨g1, l1, h1', e1', s1, b1, f1, i1⟩ := new_block hW us e (0, 0)
    have husz : us.size = len * sz := by have := r.len; simp at this; omega
    obtain ⟨g2, l2, h2', r2⟩ := fin_val (q := 0) (n := len) (sz := sz) (cap := len) h1' e1' (.inl rfl) s1 b1 f1 (RelL_mono l1 _ _ r) on (fun j v hv => by simpa using hv) (fun i _ => i1 i) hlen (Nat.le_refl _) (by omega)
    exact done_value hrun (l1.trans l2) h2' r2 h
  ·cases hc
 | store sz a' x' =>
  simp only [chkEI] at hc
  split at hc
  ·rename_i t ad x ho
   simp only [Bool.and_eq_true, decide_eq_true_eq] at hc
   obtain ⟨⟨hs, h1⟩, h2⟩ := hc
   have k := chkA_rel hF h1
   simp only [wE] at h
   split at h <;> (try (cases h; done))
   rename_i i off he
   split at h <;> (try (cases h; done))
   rename_i cs hcs
   obtain ⟨h3, h4, h5, h6⟩ := h
   rw [he] at k
   obtain ⟨k1, e⟩ := k
   obtain ⟨r, on⟩ := cells_rel (chkA_rel hF h2) h4
   obtain ⟨w', hrun, hw'⟩ := RelW.store (P := P) hW hcs (off := off) r on (by omega)
   have hsz : (a.eval x).cells.size = sz := by rw [← h3, r.len]; simp
   refine done_skip ?_ (G.le.refl g) hw' h6
   simp [execOp, ho, e, Instr.storeAt, Instr.sureAddr, storeVar, szOf_run hs, hsz, hrun]
  ·cases hc
 | append sz bytes mu s' x' =>
  simp only [chkEI] at hc
  split at hc
  ·rename_i xs ts ho
   split at hc <;> (try (cases hc; done))
   rename_i s x t t2 hxs hts
   simp only [Bool.and_eq_true, decide_eq_true_eq] at hc
   obtain ⟨⟨⟨⟨h1, h2⟩, h3⟩, h4⟩, h5⟩ := hc
   obtain rfl : xs = #[s, x] := Array.toList_inj.1 hxs
   obtain rfl : ts = #[t, t2] := Array.toList_inj.1 hts
   split at h4 <;> (try (cases h4; done))
   rename_i d2 hni ht2
   split at h5 <;> (try (cases h5; done))
   rename_i e ht
   split at h5 <;> (try (cases h5; done))
   rename_i i hi
   simp only [Bool.and_eq_true, decide_eq_true_eq] at h5
   obtain ⟨⟨rfl, rfl⟩, h6⟩ := h5
   split at h6 <;> (try (cases h6; done))
   rename_i z hz
   have hzs := of_decide_eq_true h6
   simp only [wE] at h
   split at h <;> (try (cases h; done))
   rename_i k cs hel
   split at h <;> (try (cases h; done))
   rename_i v S' hap
   obtain ⟨ys, r, on, src⟩ := elems_src (P := P) hW (chkA_rel hF h2) hel
   obtain ⟨v', w', g', hrun, l, hw', rv⟩ := simAppend (ty := o.type) hW ht ht2 (fun k hk => hni k hk) hi hz hzs h3 (chkA_rel hF h1) r on src hap
   refine done_value ?_ l hw' rv h
   simp [execOp, ho, resolve, invoke, builtin, hrun]
  ·cases hc
 | copy sz d' s' =>
  simp only [chkEI] at hc
  split at hc
  ·rename_i xs ts ho
   split at hc <;> (try (cases hc; done))
   rename_i d s t trest hxs hts
   simp only [Bool.and_eq_true] at hc
   obtain ⟨⟨h1, h2⟩, h3⟩ := hc
   obtain rfl : xs = #[d, s] := Array.toList_inj.1 hxs
   obtain rfl : ts = (t :: trest).toArray := Array.toList_inj.1 (by simpa using hts)
   split at h3 <;> (try (cases h3; done))
   rename_i e ht
   have hs := of_decide_eq_true h3
   have kd := chkA_rel hF h1
   simp only [wE] at h
   split at h <;> (try (cases h; done))
   ·rename_i m xs' o' off k sz' hel he
    split at h <;> (try (cases h; done))
    rename_i cs hcs
    obtain ⟨rfl, hin, hK⟩ := h
    obtain ⟨ys, r, on, src⟩ := elems_src (P := P) hW (chkA_rel hF h2) hel
    rw [he] at kd
    obtain ⟨_, cap, e1, _⟩ := kd
    have hmin : min m k * sz' ≤ m * sz' := Nat.mul_le_mul_right _ (Nat.min_le_left _ _)
    have hmin2 : min m k * sz' ≤ k * sz' := Nat.mul_le_mul_right _ (Nat.min_le_right _ _)
    obtain ⟨w', hrun, hw'⟩ := RelW.store (P := P) hW hcs (off := off) (r.take (min m k * sz')) (on.take _) (by rw [List.length_take, r.len, src.len]; omega)
    have hfc : (Builtin.firstCells sz' (min m k) (a.eval s)).run P w = .ok (ys.take (min m k * sz')).toArray w := by
     obtain ⟨hl, us, r', on', hsh⟩ := elems_rel hW (chkA_rel hF h2) hel
     have hlen := src.len
     rcases hsh with ⟨q, c, e2, hq⟩ | ⟨s2, e2, rfl, rfl, rfl⟩
     ·have hcell := src.cells w rfl
      rw [e2] at hcell ⊢
      cases q with
      | none =>
       rcases hq with rfl | ⟨_, _, hh, _⟩
       ·have : ys = [] := List.eq_nil_of_length_eq_zero (by rw [hlen]; simp)
        subst this
        simp [Builtin.firstCells]
       ·cases hh
      | some q =>
       rcases hq with rfl | ⟨b, p, hh, rd⟩
       ·have : ys = [] := List.eq_nil_of_length_eq_zero (by rw [hlen]; simp)
        subst this
        simp [Builtin.firstCells, loadCells, loadCellsFrom]
       ·injection hh with hh; subst hh
        have heq : us = ys := by
         have h2 := run_loadCells_list (P := P) w ⟨b, p, none⟩ us (fun j v hj => by rw [add_at]; exact rd j v hj)
         have hul : us.length = m * sz' := by rw [← r'.len, hl]
         rw [hul] at h2
         simp only [Builtin.firstCells] at hcell
         rw [h2] at hcell
         injection hcell with hcell
         exact Array.toList_inj.2 hcell
        subst heq
        have h2 := run_loadCells_list (P := P) w ⟨b, p, none⟩ (us.take (min m k * sz')) (fun j v hj => by rw [add_at]; exact (rd.take _) j v hj)
        have hul : (us.take (min m k * sz')).length = min m k * sz' := by rw [List.length_take, hlen]; omega
        rw [hul] at h2
        simp only [Builtin.firstCells]
        exact h2
     ·have hcell := src.cells w rfl
      rw [e2] at hcell ⊢
      simp only [Builtin.firstCells, Sem.run_pure] at hcell ⊢
      injection hcell with hcell
      rw [ByteArray.extract_zero_size] at hcell
      have : ys = s2.data.toList.map fun b => Value.int .u8 b.toNat := by
       rw [← Array.toList_inj] at hcell
       simpa using hcell.symm
      subst this
      congr 1
      apply Array.toList_inj.1
      simp [List.map_take]
    refine done_value (v := .int .i64 ((min m k : Nat))) (u := .int .i64 ((min m k : Nat))) ?_ (G.le.refl g) hw' rfl hK
    have hb : (Builtin.copy_ (t :: trest).toArray o.type #[a.eval d, a.eval s]).run P w = .ok (.int .i64 ((min m k : Nat))) w' := by
     have hrun' := hrun
     simp [Builtin.copy_, run_underlying ht, e1, src.lenOf, szOf_run hs]
     have hm : Nat.min m k = min m k := rfl
     rw [hm, hfc]
     simp only [Result.andThen_ok]
     rw [hrun']
     simp [goInt]
    simp [execOp, ho, resolve, invoke, builtin]
    rw [hb]
    rfl
   ·rename_i m xs' cs k sz' tk hel he
    obtain ⟨hmin, hK⟩ := h
    obtain ⟨ys, r, on, src⟩ := elems_src (P := P) hW (chkA_rel hF h2) hel
    rw [he] at kd
    obtain ⟨q, cap, e1, _⟩ := rel_sl kd
    refine done_value (v := .int .i64 0) (u := .int .i64 0) (w' := w) ?_ (G.le.refl g) hW rfl hK
    have hfc : (Builtin.firstCells sz 0 (a.eval s)).run P w = .ok #[] w := by
     obtain ⟨hl, us, r', on', hsh⟩ := elems_rel hW (chkA_rel hF h2) hel
     rcases hsh with ⟨q, c, e2, hq⟩ | ⟨s2, e2, _, rfl, _⟩
     ·rw [e2]
      cases q <;> simp [Builtin.firstCells, loadCells, loadCellsFrom]
     ·rw [e2]
      simp [Builtin.firstCells]
    have hb : (Builtin.copy_ (t :: trest).toArray o.type #[a.eval d, a.eval s]).run P w = .ok (.int .i64 0) w := by
     simp [Builtin.copy_, run_underlying ht, e1, src.lenOf, szOf_run hs]
     have hm : Nat.min m k = 0 := hmin
     rw [hm, hfc]
     simp only [Result.andThen_ok]
     cases q <;> simp [goInt, storeCells]
    simp [execOp, ho, resolve, invoke, builtin]
    rw [hb]
    rfl
  ·cases hc
 | makeSlice sz bytes mu zero l' c' =>
  simp only [chkEI] at hc
  split at hc
  ·rename_i t l c ho
   simp only [Bool.and_eq_true, decide_eq_true_eq] at hc
   obtain ⟨⟨⟨⟨h1, h2⟩, h3⟩, h30⟩, h4⟩ := hc
   split at h4 <;> (try (cases h4; done))
   rename_i e ht
   split at h4 <;> (try (cases h4; done))
   rename_i i hi
   simp only [Bool.and_eq_true, decide_eq_true_eq] at h4
   obtain ⟨⟨rfl, rfl⟩, h5⟩ := h4
   split at h5 <;> (try (cases h5; done))
   rename_i z hz
   simp only [Bool.and_eq_true, decide_eq_true_eq] at h5
   obtain ⟨hzs, hzl⟩ := h5
   obtain ⟨rz, oz⟩ := chkL_rel g hzl
   simp only [wE] at h
   split at h <;> (try (cases h; done))
   rename_i m k hm hk
   split at h <;> (try (cases h; done))
   rename_i hcond
   obtain ⟨hmk, hroom⟩ := hcond
   have hroom : k * i.bytes ≤ 140737488355328 := by simpa [roomOk] using hroom
   obtain ⟨kd, hu⟩ := idx_rel (chkA_rel hF h1) hm
   obtain ⟨kd2, hu2⟩ := idx_rel (chkA_rel hF h2) hk
   have hk63 : k ≤ 140737488355328 := Nat.le_trans (Nat.le_mul_of_pos_right _ (Nat.pos_of_ne_zero h3)) hroom
   have hbytes : (i.bytes : Int) * (k : Int) ≤ 281474976710656 := by
    have : ((i.bytes * k : Nat) : Int) ≤ 281474976710656 := by rw [Nat.mul_comm]; omega
    rwa [Int.natCast_mul] at this
   have hrun0 := run_make (P := P) w t e i z ht hi hz kd kd2 m k (by omega) (by omega) hbytes (by omega)
   simp only [Int.toNat_natCast] at hrun0
   have hmade : madeCells z.cells (k * i.size) = (Array.range (k * z.cells.size)).map fun j => z.cells[j % z.cells.size]! := by
    rw [hzs]; simp [madeCells, hzs]
   rw [hmade] at hrun0
   have hrun : (execOp a.eval o).run P w = .ok (.value (.slice (some ⟨w.heap.size, 0, none⟩) m k)) (w.alloc (.cells ((Array.range (k * z.cells.size)).map fun j => z.cells[j % z.cells.size]!) e)) := by
    simp only [execOp, ho, hu, hu2, Sem.run_bind, hrun0, Result.andThen_ok]
    rfl
   obtain ⟨r, on⟩ := madeCells_rel rz oz k
   have hzlen : zero.length = i.size := by rw [rz.len]; simpa using hzs
   split at h
   ·obtain ⟨rfl, hK⟩ := h
    obtain ⟨g', l', h', rv, _⟩ := new_obj (n := m) (sz := i.size) hW r on e (by rw [r.len]; simp [hzs])
    rw [Array.toArray_toList] at h'
    exact done_value hrun l' h' rv hK
   ·split at h
    ·rename_i hmk'
     subst hmk'
     obtain ⟨g', l', h', rv⟩ := new_cap (n := m) (sz := i.size) hW r on e (by rw [r.len]; simp [hzs])
     rw [Array.toArray_toList] at h'
     exact done_value hrun l' h' rv h
    ·obtain ⟨g1, l1, h1', e1', s1, b1, f1, i1⟩ := new_block hW ((Array.range (k * z.cells.size)).map fun j => z.cells[j % z.cells.size]!) e (0, 0)
     obtain ⟨r2, on2⟩ := madeCells_rel rz oz m
     have hrow : ∀ (j : Nat) (v : Value), ((Array.range (m * z.cells.size)).map fun j => z.cells[j % z.cells.size]!).toList[j]? = some v → ((Array.range (k * z.cells.size)).map fun j => z.cells[j % z.cells.size]!)[0 + j]? = some v := fun j v hv => by
      have hj := (List.getElem?_eq_some_iff.1 hv).1
      simp at hj
      have hjk : j < k * z.cells.size := Nat.lt_of_lt_of_le hj (Nat.mul_le_mul_right _ hmk)
      rw [Nat.zero_add]
      simp [List.getElem?_map, List.getElem?_range hj] at hv
      simp [hjk, hv]
     obtain ⟨g2, l2, h2', r2'⟩ := fin_val (q := 0) (n := m) (sz := i.size) (cap := k) h1' e1' (.inl rfl) s1 b1 f1 (RelL_mono l1 _ _ r2) on2 hrow (fun i _ => i1 i) (by rw [r2.len]; simp [hzs]) hmk (by simp [hzs])
     exact done_value hrun (l1.trans l2) h2' r2' h
  ·cases hc
 | makeMap =>
  simp only [chkEI] at hc
  split at hc
  ·rename_i t ho
   simp only [wE] at h
   obtain ⟨h', l⟩ := hW.newObj (x := .map [] 0) (o := .map #[] 0) (fun g' _ => ⟨#[], rfl, rfl, fun j e m he => by simp at he⟩)
   refine done_value (v := .map (some S.n)) (u := .map (some w.heap.size)) ?_ l h' ⟨?_, ?_⟩ h
   ·simp [execOp, ho, Instr.makeMap]
   ·show S.n < g.n + 1; rw [hW.n]; omega
   ·show Value.map (some w.heap.size) = .map (some ((if S.n = g.n then (w.heap.size, 0) else g.loc S.n) : Nat × Nat).1)
    rw [if_pos hW.n.symm]
  ·cases hc
 | mapSet kk m' k' v' =>
  have hc' : ∃ t m k v, (o.op = .mapUpdate t m k v ∨ o.op = .insert t m k v) ∧ chkA n m m' = true ∧ chkA n k k' = true ∧ chkA n v v' = true ∧ ∃ kt et, P.underlying t = some (.map kt et) ∧ keyKind P kt kk = true := by
   simp only [chkEI] at hc
   split at hc
   ·rename_i t m k v ho
    simp only [Bool.and_eq_true] at hc
    obtain ⟨⟨⟨h1, h2⟩, h3⟩, h4⟩ := hc
    split at h4 <;> (try (cases h4; done))
    exact ⟨t, m, k, v, .inl ho, h1, h2, h3, _, _, by assumption, h4⟩
   ·rename_i t m k v ho
    simp only [Bool.and_eq_true] at hc
    obtain ⟨⟨⟨h1, h2⟩, h3⟩, h4⟩ := hc
    split at h4 <;> (try (cases h4; done))
    exact ⟨t, m, k, v, .inr ho, h1, h2, h3, _, _, by assumption, h4⟩
   ·cases hc
  obtain ⟨t, m, k, v, ho, h1, h2, h3, kt, et, ht, h4⟩ := hc'
  have hex : (execOp a.eval o).run P w = (do Instr.mapUpdate t (a.eval m) (a.eval k) (a.eval v); pure Next.skip : Sem Next).run P w := by
   rcases ho with ho | ho <;> simp only [execOp, ho]
  have km := chkA_rel hF h1
  have kk' := chkA_rel hF h2
  have kv := chkA_rel hF h3
  simp only [wE] at h
  split at h <;> (try (cases h; done))
  rename_i r he
  split at h <;> (try (cases h; done))
  rename_i es c hes
  obtain ⟨hone, hkey, h⟩ := h
  rw [he] at km
  obtain ⟨_, e1⟩ := km
  obtain ⟨ms, hms, hm⟩ := hW.map hes
  have hck := checkKey_run (P := P) h4 false 9999 (a.eval k) w
  have hget := run_getMap (P := P) hms
  split at h <;> (try (cases h; done))
  ·rename_i j v0 hfind
   obtain ⟨r', er, hr⟩ := findKey_rel (P := P) h4 kk' hm hfind w
   cases r' with
   | none => exact hr.elim
   | some q' =>
    obtain ⟨j', u0⟩ := q'
    obtain ⟨rfl, hj, _, e0, m0, he0, hm0, _, hke⟩ := hr
    simp only at hj he0 hm0
    obtain ⟨b1, b2, b3, b4, b5⟩ := hm.2 j e0 m0 he0 hm0
    have hsame := key_same kk' b1 hke
    have hm0' : ms[j]? = some m0 := by rw [← Array.getElem?_toList]; exact hm0
    have hstay : (Instr.keyThatStays (((ms[j]?).map (·.key)).getD (a.eval k)) (a.eval k)).run P w = .ok (a.eval k) w := by
     simp [Instr.keyThatStays, hm0', hsame]
    have hset := run_setAny (P := P) (o' := .map (ms.modify j fun e => { e with key := a.eval k, val := a.eval v }) c) hms (fun _ _ _ => by intro hh; cases hh)
    refine done_skip (w' := { w with heap := w.heap.setIfInBounds (g.loc r).1 (.map (ms.modify j fun e => { e with key := a.eval k, val := a.eval v }) c) }) ?_ (G.le.refl g) (hW.setObj hes hms (fun _ _ _ => by intro hh; cases hh) ?_) h
    ·rw [hex]
     simp [e1, Instr.mapUpdate, run_underlying ht, hget, hck, er, hstay, hset]
    ·refine ⟨_, rfl, by simp [hm.1], fun x e' m' he' hm' => ?_⟩
     simp only [Array.toList_modify] at hm'
     rw [List.getElem?_modify] at he' hm'
     by_cases hx : j = x
     ·subst hx
      simp [he0] at he'
      simp [hm0] at hm'
      subst he'; subst hm'
      exact ⟨kk', kv, b3, ⟨kk, hkey⟩, hone⟩
     ·simp only [hx, if_false, Option.map_eq_map, Option.map_id_fun', id] at he' hm'
      exact hm.2 x e' m' (by simpa [hx] using he') (by simpa [hx] using hm')
  ·rename_i hfind
   obtain ⟨r', er, hr⟩ := findKey_rel (P := P) h4 kk' hm hfind w
   cases r' with
   | some q' => exact hr.elim
   | none =>
    have hset := run_setAny (P := P) (o' := .map (ms.push { key := a.eval k, val := a.eval v, born := c }) (c + 1)) hms (fun _ _ _ => by intro hh; cases hh)
    refine done_skip (w' := { w with heap := w.heap.setIfInBounds (g.loc r).1 (.map (ms.push { key := a.eval k, val := a.eval v, born := c }) (c + 1)) }) ?_ (G.le.refl g) (hW.setObj hes hms (fun _ _ _ => by intro hh; cases hh) ?_) h
    ·rw [hex]
     simp [e1, Instr.mapUpdate, run_underlying ht, hget, hck, er, hset]
    ·refine ⟨_, rfl, by simp [hm.1], fun x e' m' he' hm' => ?_⟩
     simp only [Array.toList_push] at hm'
     rcases Nat.lt_or_ge x es.length with hx | hx
     ·rw [List.getElem?_append_left hx] at he'
      rw [List.getElem?_append_left (by rw [← hm.1]; exact hx)] at hm'
      exact hm.2 x e' m' he' hm'
     ·have hxe : x = es.length := by
       have := (List.getElem?_eq_some_iff.1 he').1
       simp at this; omega
      subst hxe
      rw [List.getElem?_append_right (Nat.le_refl _)] at he'
      rw [List.getElem?_append_right (by rw [← hm.1]; exact Nat.le_refl _), ← hm.1] at hm'
      simp at he' hm'
      subst he'; subst hm'
      exact ⟨kk', kv, rfl, ⟨kk, hkey⟩, hone⟩
 | delete kk m' k' =>
  simp only [chkEI] at hc
  split at hc
  ·rename_i xs ts ho
   split at hc <;> (try (cases hc; done))
   rename_i m k t trest hxs hts
   simp only [Bool.and_eq_true] at hc
   obtain ⟨⟨h1, h2⟩, h3⟩ := hc
   obtain rfl : xs = #[m, k] := Array.toList_inj.1 hxs
   obtain rfl : ts = (t :: trest).toArray := Array.toList_inj.1 (by simpa using hts)
   split at h3 <;> (try (cases h3; done))
   rename_i kt et ht
   have km := chkA_rel hF h1
   have kk' := chkA_rel hF h2
   have hex : ∀ w', (Builtin.delete_ (t :: trest).toArray o.type #[a.eval m, a.eval k]).run P w = .ok (.tuple #[]) w' → (execOp a.eval o).run P w = .ok (.value (.tuple #[])) w' := fun w' hb => by
    simp [execOp, ho, resolve, invoke, builtin]
    rw [hb]
    rfl
   simp only [wE] at h
   split at h <;> (try (cases h; done))
   ·rename_i he
    rw [he] at km
    have e1 : a.eval m = .map none := km
    have hck := checkKey_run (P := P) h3 true 9999 (a.eval k) w
    refine done_value (v := .tup []) (w' := w) (hex w ?_) (G.le.refl g) hW ⟨[], rfl, rfl⟩ h.2
    simp [Builtin.delete_, run_underlying ht, e1, hck]
   ·rename_i r he
    split at h <;> (try (cases h; done))
    rename_i es c hes
    obtain ⟨hkey, h⟩ := h
    rw [he] at km
    obtain ⟨_, e1⟩ := km
    obtain ⟨ms, hms, hm⟩ := hW.map hes
    have hck := checkKey_run (P := P) h3 ms.isEmpty 9999 (a.eval k) w
    have hget := run_getMap (P := P) hms
    split at h <;> (try (cases h; done))
    ·rename_i j v0 hfind
     obtain ⟨r', er, hr⟩ := findKey_rel (P := P) h3 kk' hm hfind w
     cases r' with
     | none => exact hr.elim
     | some q' =>
      obtain ⟨j', u0⟩ := q'
      obtain ⟨rfl, hj, _⟩ := hr
      simp only at hj
      have hset := run_setAny (P := P) (o' := .map (ms.eraseIdxIfInBounds j) c) hms (fun _ _ _ => by intro hh; cases hh)
      refine done_value (v := .tup []) (w' := { w with heap := w.heap.setIfInBounds (g.loc r).1 (.map (ms.eraseIdxIfInBounds j) c) }) (hex _ ?_) (G.le.refl g) (hW.setObj hes hms (fun _ _ _ => by intro hh; cases hh) ?_) ⟨[], rfl, rfl⟩ h
      ·simp [Builtin.delete_, run_underlying ht, e1, hget, hck, er, hset]
      ·have hjm : j < ms.size := by have := hm.1; simp at this; omega
       have herase : (ms.eraseIdxIfInBounds j).toList = ms.toList.eraseIdx j := by
        unfold Array.eraseIdxIfInBounds
        rw [dif_pos hjm]
        simp
       refine ⟨_, rfl, by rw [herase, List.length_eraseIdx, List.length_eraseIdx, hm.1], fun x e' m' he' hm' => ?_⟩
       rw [herase] at hm'
       rw [List.getElem?_eraseIdx] at he' hm'
       split at he'
       ·rename_i hx
        rw [if_pos hx] at hm'
        exact hm.2 x e' m' he' hm'
       ·rename_i hx
        rw [if_neg hx] at hm'
        exact hm.2 (x + 1) e' m' he' hm'
    ·rename_i hfind
     obtain ⟨r', er, hr⟩ := findKey_rel (P := P) h3 kk' hm hfind w
     cases r' with
     | some q' => exact hr.elim
     | none =>
      have hset := run_setAny (P := P) (o' := .map ms c) hms (fun _ _ _ => by intro hh; cases hh)
      have hself : ({ w with heap := w.heap.setIfInBounds (g.loc r).1 (.map ms c) } : World) = w := by
       have : w.heap.setIfInBounds (g.loc r).1 (.map ms c) = w.heap := by
        apply Array.ext
        ·simp
        ·intro x hx1 hx2
         rw [Array.getElem_setIfInBounds]
         split
         ·rename_i hxx; subst hxx
          have := hms
          rw [Array.getElem?_eq_getElem hx2] at this
          injection this with this
          exact this.symm
         ·rfl
       rw [this]
      rw [hself] at hset
      refine done_value (v := .tup []) (w' := w) (hex _ ?_) (G.le.refl g) hW ⟨[], rfl, rfl⟩ h
      simp [Builtin.delete_, run_underlying ht, e1, hget, hck, er, hset]
  ·cases hc
 | range x' =>
  simp only [chkEI] at hc
  split at hc
  ·rename_i t x ho
   simp only [Bool.and_eq_true] at hc
   obtain ⟨h1, h2⟩ := hc
   split at h2 <;> (try (cases h2; done))
   rename_i kt et ht
   have k := chkA_rel hF h1
   simp only [wE] at h
   have hloc : ∀ x : AObj, ((if S.n = g.n then (w.heap.size, 0) else g.loc S.n) : Nat × Nat).1 = w.heap.size := fun _ => by rw [if_pos hW.n.symm]
   split at h <;> (try (cases h; done))
   ·rename_i he
    rw [he] at k
    have e1 : a.eval x = .map none := k
    obtain ⟨h', l⟩ := hW.newObj (x := .iter none 0 [] 0) (o := .mapIter none 0 #[] 0) (fun g' _ => ⟨fun r hr => (by cases hr), rfl⟩)
    refine done_value (v := .iter S.n) (u := .pointer (some ⟨w.heap.size, 0, none⟩)) ?_ l h' ⟨?_, ?_⟩ h
    ·simp [execOp, ho, Instr.range, run_underlying ht, e1]
    ·show S.n < g.n + 1; rw [hW.n]; omega
    ·show Value.pointer (some ⟨w.heap.size, 0, none⟩) = .pointer (some ⟨((if S.n = g.n then (w.heap.size, 0) else g.loc S.n) : Nat × Nat).1, 0, none⟩)
     rw [if_pos hW.n.symm]
   ·rename_i r he
    split at h <;> (try (cases h; done))
    rename_i es c hes
    rw [he] at k
    obtain ⟨k1, e1⟩ := k
    obtain ⟨ms, hms, hm⟩ := hW.map hes
    obtain ⟨h', l⟩ := hW.newObj (x := .iter (some r) c [] c) (o := .mapIter (some (g.loc r).1) c #[] c) (fun g' hl => ⟨fun r' hr => by injection hr with hr; subst hr; exact Nat.lt_of_lt_of_le k1 hl.n, by simp [hl.loc r k1]⟩)
    refine done_value (v := .iter S.n) (u := .pointer (some ⟨w.heap.size, 0, none⟩)) ?_ l h' ⟨?_, ?_⟩ h
    ·simp [execOp, ho, Instr.range, run_underlying ht, e1, run_getMap hms]
    ·show S.n < g.n + 1; rw [hW.n]; omega
    ·show Value.pointer (some ⟨w.heap.size, 0, none⟩) = .pointer (some ⟨((if S.n = g.n then (w.heap.size, 0) else g.loc S.n) : Nat × Nat).1, 0, none⟩)
     rw [if_pos hW.n.symm]
  ·cases hc
 | next x' =>
  simp only [chkEI] at hc
  split at hc
  ·rename_i x ho
   have k := chkA_rel hF hc
   simp only [wE] at h
   split at h <;> (try (cases h; done))
   rename_i j he
   rw [he] at k
   obtain ⟨k1, e1⟩ := k
   split at h <;> (try (cases h; done))
   ·rename_i since seen last hit
    obtain ⟨_, _, ob, hob, _, rfl⟩ := hW.hp j _ hit
    have hget := run_getAny (P := P) hob (fun _ _ _ => by intro hh; cases hh)
    refine done_value (v := .tup [.bool false]) (u := .tuple #[.bool false]) (w' := w) ?_ (G.le.refl g) hW ⟨[.bool false], rfl, .bool false, [], rfl, rfl, rfl⟩ h
    simp [execOp, ho, e1, Instr.next, hget]
   ·rename_i r since seen last hit
    split at h <;> (try (cases h; done))
    rename_i es c hes
    obtain ⟨rfl, rfl, hborn, hend, hstep⟩ := h
    obtain ⟨_, _, ob, hob, hr, rfl⟩ := hW.hp j _ hit
    obtain ⟨ms, hms, hm⟩ := hW.map hes
    have hget := run_getAny (P := P) hob (fun _ _ _ => by intro hh; cases hh)
    have hgetm := run_getMap (P := P) hms
    have hborn' : ∀ m ∈ ms.toList, m.born < c := fun m hmm => by
     obtain ⟨x, hx⟩ := List.mem_iff_getElem?.1 hmm
     have hxl := (List.getElem?_eq_some_iff.1 hx).1
     have he' : es[x]? = some (es[x]'(by rw [hm.1]; exact hxl)) := List.getElem?_eq_getElem _
     obtain ⟨_, _, b3, _⟩ := hm.2 x _ m he' hx
     rw [b3]
     exact hborn _ (List.getElem_mem _)
    have hguard : (!(seen.toArray).isEmpty && !ms.isEmpty && ms.all fun x => decide (x.born ≥ c)) = false := by
     cases hme : ms.isEmpty with
     | true => simp
     | false =>
      have hne : ms.toList ≠ [] := fun hh => by
       have : ms = #[] := Array.toList_inj.1 hh
       rw [this] at hme; simp at hme
      obtain ⟨m, hmm⟩ := List.exists_mem_of_ne_nil _ hne
      have : ms.all (fun x => decide (x.born ≥ c)) = false := by
       rw [Bool.eq_false_iff]
       intro hall
       rw [← Array.all_toList] at hall
       have := List.all_eq_true.1 hall m hmm
       have := hborn' m hmm
       simp at *
       omega
      simp [this]
    have hold : ∀ (l : Array MapEntry), (∀ m ∈ l.toList, m.born < c) → (l.filter fun m => decide (m.born < c)) = l ∧ (l.filter fun m => decide (m.born ≥ c)) = #[] := fun l hl => by
     constructor
     ·rw [Array.filter_eq_self]
      intro m hmm
      simpa using hl m (by simpa using hmm)
     ·rw [Array.filter_eq_empty_iff]
      intro m hmm
      have := hl m (by simpa using hmm)
      simp; omega
    have hleft := hold (ms.filter fun m => !seen.toArray.contains m.born) (fun m hmm => hborn' m (by
     have : m ∈ ms.filter fun m => !seen.toArray.contains m.born := by simpa using hmm
     simpa using (Array.mem_filter.1 this).1))
    have hcand : ∀ (w1 : World) (Kk : MapEntry → Sem Value) (ov : Sem Value), True := fun _ _ _ => trivial
    by_cases hemp : (ms.filter fun m => !seen.toArray.contains m.born) = #[]
    ·have hall : (es.all fun e => seen.contains e.2.2) = true := by
      rw [List.all_eq_true]
      intro e hee
      obtain ⟨x, hx⟩ := List.mem_iff_getElem?.1 hee
      have hxl := (List.getElem?_eq_some_iff.1 hx).1
      have hm' : ms.toList[x]? = some (ms.toList[x]'(by rw [← hm.1]; exact hxl)) := List.getElem?_eq_getElem _
      obtain ⟨_, _, b3, _⟩ := hm.2 x e _ hx hm'
      rw [Array.filter_eq_empty_iff] at hemp
      have := hemp _ (by simp : ms.toList[x]'(by rw [← hm.1]; exact hxl) ∈ ms)
      rw [b3] at this
      simpa using this
     refine done_value (v := .tup [.bool false]) (u := .tuple #[.bool false]) (w' := w) ?_ (G.le.refl g) hW ⟨[.bool false], rfl, .bool false, [], rfl, rfl, rfl⟩ (hend hall)
     have e0 : (Option.map (fun r => (g.loc r).fst) (some r)) = some (g.loc r).1 := rfl
     simp only [execOp, ho, e1, Instr.next, Sem.run_bind, hget, Result.andThen_ok, e0, hgetm, hguard, Bool.false_eq_true, if_false, Sem.run_pure, hleft.1, hleft.2]
     rw [hemp]
     simp [Question.forced]
    ·have hsz : 0 < (ms.filter fun m => !seen.toArray.contains m.born).size := Array.size_pos_iff.2 hemp
     generalize hl : (ms.filter fun m => !seen.toArray.contains m.born) = left at *
     have hmem : ∀ m ∈ left, ∃ (x : Nat) (e : V × V × Nat), es[x]? = some e ∧ ms.toList[x]? = some m ∧ seen.contains e.2.2 = false := fun m hmm => by
      rw [← hl] at hmm
      obtain ⟨h1, h2⟩ := Array.mem_filter.1 hmm
      obtain ⟨x, hx⟩ := List.mem_iff_getElem?.1 (by simpa using h1 : m ∈ ms.toList)
      have hxl := (List.getElem?_eq_some_iff.1 hx).1
      have he' : es[x]? = some (es[x]'(by rw [hm.1]; exact hxl)) := List.getElem?_eq_getElem _
      obtain ⟨_, _, b3, _⟩ := hm.2 x _ m he' hx
      refine ⟨x, _, he', hx, ?_⟩
      rw [← b3]
      simpa using h2
     have fin : ∀ (w1 : World) (m : MapEntry), m ∈ left → (w1 = w ∨ w1 = w.drew) → (execOp a.eval o).run P w = .ok (.value (.tuple #[.bool true, m.key, m.val])) { w1 with heap := w1.heap.setIfInBounds (g.loc j).1 (.mapIter (some (g.loc r).1) c (seen.toArray.push m.born) c) } →
       Done P w0 o a g w K := fun w1 m hmm hw1 hrun => by
      obtain ⟨x, e, he', hx, hns⟩ := hmem m hmm
      obtain ⟨b1, b2, b3, _⟩ := hm.2 x e m he' hx
      have hW1 : RelW w0 g S w1 := by rcases hw1 with rfl | rfl; exact hW; exact hW.drew
      have hob1 : w1.heap[(g.loc j).1]? = some (.mapIter (some (g.loc r).1) c seen.toArray c) := by rcases hw1 with rfl | rfl <;> exact hob
      have hW2 := hW1.setObj hit hob1 (fun _ _ _ => by intro hh; cases hh) (x' := .iter (some r) c (seen ++ [e.2.2]) c) (o' := .mapIter (some (g.loc r).1) c (seen.toArray.push m.born) c) ⟨hr, by rw [b3]; simp⟩
      exact done_value (v := .tup [.bool true, e.1, e.2.1]) hrun (G.le.refl g) hW2 ⟨[.bool true, m.key, m.val], rfl, _, _, rfl, rfl, _, _, rfl, b1, _, _, rfl, b2, rfl⟩ (hstep e (List.mem_of_getElem? he') hns)
     have hne : left.isEmpty = false := by
      rw [Bool.eq_false_iff]; intro hh
      exact hemp (Array.isEmpty_iff.1 hh)
     have hidx : ∀ i, i < left.size → (left.map some)[i]? = some (some (left[i]!)) := fun i hi => by simp [hi]
     by_cases hone : left.size ≤ 1
     ·refine fin w (left[0]!) (by rw [getElem!_pos left 0 hsz]; exact Array.getElem_mem hsz) (.inl rfl) ?_
      have hset := run_setAny (P := P) (w := w) (o' := .mapIter (some (g.loc r).1) c (seen.toArray.push (left[0]!).born) c) hob (fun _ _ _ => by intro hh; cases hh)
      have e0 : (Option.map (fun r => (g.loc r).fst) (some r)) = some (g.loc r).1 := rfl
      have hf : (Question.mapNext left.size).forced = true := by simpa [Question.forced] using hone
      simp only [execOp, ho, e1, Instr.next, Sem.run_bind, hget, Result.andThen_ok, e0, hgetm, hguard, Bool.false_eq_true, if_false, Sem.run_pure, hl, hleft.1, hleft.2, hne, Array.append_empty, Array.empty_append, Array.size_map, run_choose_drew, hf, if_true, hidx 0 hsz, hset]
     ·have hlt : (Question.mapNext left.size).cut (w.tape w.drawn (Question.mapNext left.size)) < left.size := Nat.mod_lt _ hsz
      generalize hi : (Question.mapNext left.size).cut (w.tape w.drawn (Question.mapNext left.size)) = i at hlt
      refine fin w.drew (left[i]!) (by rw [getElem!_pos left i hlt]; exact Array.getElem_mem hlt) (.inr rfl) ?_
      have hset := run_setAny (P := P) (w := w.drew) (o' := .mapIter (some (g.loc r).1) c (seen.toArray.push (left[i]!).born) c) hob (fun _ _ _ => by intro hh; cases hh)
      have e0 : (Option.map (fun r => (g.loc r).fst) (some r)) = some (g.loc r).1 := rfl
      have hf : (Question.mapNext left.size).forced = false := by
       have : ¬ left.size ≤ 1 := hone
       simpa [Question.forced] using this
      simp only [execOp, ho, e1, Instr.next, Sem.run_bind, hget, Result.andThen_ok, e0, hgetm, hguard, Bool.false_eq_true, if_false, Sem.run_pure, hl, hleft.1, hleft.2, hne, Array.append_empty, Array.empty_append, Array.size_map, run_choose_drew, hf, hi, hidx i hlt, hset]
  ·cases hc
 | strBytes x' =>
  simp only [chkEI] at hc
  split at hc
  ·rename_i src dst x ho
   simp only [Bool.and_eq_true] at hc
   obtain ⟨h1, h2⟩ := hc
   split at h2 <;> (try (cases h2; done))
   rename_i e hs hd
   split at h2 <;> (try (cases h2; done))
   rename_i he8
   have k := chkA_rel hF h1
   simp only [wE] at h
   split at h <;> (try (cases h; done))
   rename_i s he
   rw [he] at k
   have hrun := run_bytes_of_string (P := P) w src dst e s hs hd he8
   obtain ⟨g1, l1, h1', e1, s1, b1, f1, i1⟩ := new_block hW.drew (bytesRow s (grownCap w s.size 0 e)) e ((bytesRow s (grownCap w s.size 0 e)).size, (bytesRow s (grownCap w s.size 0 e)).size + 1)
   have hcap := grownCap_ge w s.size 0 e
   have hsz : (bytesRow s (grownCap w s.size 0 e)).size = grownCap w s.size 0 e := by
    simp only [bytesRow, Array.size_append, Array.size_map, Array.size_replicate]
    have : s.data.size = s.size := rfl
    omega
   have hr : RelL g1 (s.data.toList.map fun b => V.int .u8 b.toNat) (s.data.toList.map fun b => Value.int .u8 b.toNat) := by
    refine RelL_iff.2 ⟨by simp, fun j c u hc hu => ?_⟩
    simp only [List.getElem?_map, Option.map_eq_some_iff] at hc hu
    obtain ⟨b, hb, rfl⟩ := hc
    obtain ⟨b', hb', rfl⟩ := hu
    rw [hb] at hb'
    injection hb' with hb'; subst hb'
    rfl
   have hon : Ones (s.data.toList.map fun b => Value.int .u8 b.toNat) := fun x hx => by
    obtain ⟨b, _, rfl⟩ := List.mem_map.1 hx
    rfl
   obtain ⟨g2, l2, h2', r2⟩ := fin_val (q := 0) (n := s.size) (sz := 1) (cap := grownCap w s.size 0 e) h1' e1 (.inr (Nat.le_refl _)) s1 b1 f1 hr hon (fun j v hv => by
    simp only [List.getElem?_map, Option.map_eq_some_iff] at hv
    obtain ⟨b, hb, rfl⟩ := hv
    have hj := (List.getElem?_eq_some_iff.1 hb).1
    simp at hj
    rw [Nat.zero_add, bytesRow_at s _ j hj]
    rw [Array.getElem?_toList, Array.getElem?_eq_getElem hj] at hb
    injection hb with hb
    rw [hb]) (fun i _ => i1 i) (by simp) hcap (by rw [hsz]; simp)
   refine done_value ?_ (l1.trans l2) h2' r2 h
   simp only [execOp, ho, rel_str k, Sem.run_bind, hrun, Result.andThen_ok]
   rfl
  ·cases hc
 | bytesSame x' =>
  simp only [chkEI] at hc
  split at hc
  ·rename_i src dst x ho
   simp only [Bool.and_eq_true, decide_eq_true_eq] at hc
   obtain ⟨⟨h1, rfl⟩, h2⟩ := hc
   split at h2 <;> (try (cases h2; done))
   rename_i e hs
   split at h2 <;> (try (cases h2; done))
   rename_i he8
   have k := chkA_rel hF h1
   simp only [wE] at h
   split at h <;> (try (cases h; done))
   rename_i cs m sz q he
   obtain ⟨hlive, hK⟩ := h
   rw [he] at k
   have k' := k
   obtain ⟨hlen, k⟩ := k
   rcases k with ⟨hh, _⟩ | ⟨_, b, p, cap, us, e1, hc, hr, on, ic, _, htok⟩ | ⟨hh, _⟩
   ·cases hh
   rotate_left
   ·rcases hh with hh | hh <;> cases hh
   obtain ⟨hq1, hq2, _⟩ := htok q rfl
   obtain ⟨_, hb0, ob, hob, row, ty, fr', rfl, hf, hsz, hfr⟩ := hW.hp q _ hlive
   rw [hq2] at hob hb0
   have hblt : b < w.heap.size := (Array.getElem?_eq_some_iff.1 hob).1
   have hset : S.set q .tok = S := by
    unfold St.set
    have : (fun j => if j = q then some AObj.tok else S.hp j) = S.hp := by
     funext j
     by_cases hj : j = q
     ·rw [if_pos hj, hj, hlive]
     ·rw [if_neg hj]
    rw [this]
   let fr2 : Nat × Nat := if fr'.1 == fr'.2 then (row.size, row.size + 1) else (min fr'.1 row.size, max fr'.2 (row.size + 1))
   have hfz : (w.freeze { block := b, off := row.size } 1).heap[b]? = some (.cells row ty fr2) := by
    unfold World.freeze
    rw [if_neg (by decide)]
    simp only [Array.getElem?_modify, hob, if_true, Option.map_some]
    obtain ⟨lo, hi⟩ := fr'
    rfl
   have hfar : ∀ x, x ≠ b → (w.freeze { block := b, off := row.size } 1).heap[x]? = w.heap[x]? := fun x hx => by
    unfold World.freeze
    rw [if_neg (by decide)]
    simp only [Array.getElem?_modify]
    rw [if_neg (fun hh => hx hh.symm)]
   have hsz2 : (w.freeze { block := b, off := row.size } 1).heap.size = w.heap.size := by
    unfold World.freeze
    rw [if_neg (by decide)]
    simp
   have hbel : Below w0.heap.size w0 (w.freeze { block := b, off := row.size } 1) := by
    refine hW.below.trans ⟨?_, ?_, ?_, by rw [hsz2]; exact Nat.le_refl _, fun x hx => hfar x (by omega)⟩ <;>
     (unfold World.freeze; rw [if_neg (by decide)])
   have hW' := hW.upd (i := q) (x := .tok) (x' := .tok) hlive hbel hsz2 (fun x _ hx => hfar x (by rw [← hq2]; exact hx)) (o := .cells row ty fr2) (by rw [hq2]; exact hfz) (fun p' u hu => by
    have hold := hW.ice _ p' u hu
    rw [hq2] at hold ⊢
    rw [cell_of_row w b p' row ty fr' hob] at hold
    rw [cell_of_row _ b p' row ty fr2 hfz]
    exact hold) ⟨row, ty, fr2, rfl, by
     show fr2.1 = fr2.2 ∨ row.size ≤ fr2.1
     rcases hf with hf | hf
     ·right
      simp only [fr2]
      rw [if_pos (by simpa using hf)]
      exact Nat.le_refl _
     ·right
      simp only [fr2]
      split
      ·exact Nat.le_refl _
      ·show row.size ≤ min fr'.1 row.size
       omega, hsz, hfr⟩
   rw [hset] at hW'
   refine done_value (u := a.eval x) ?_ (G.le.refl g) hW' k' hK
   have hshape : w.shape? b = some (ty, row.size) := by simp [World.shape?, hob]
   simp [execOp, ho, e1, convert, run_underlying hs, run_underlying he8, markStringish, hshape]
  ·cases hc
 | frz x' =>
  have hc' : ∃ x, (o.op = .move x ∨ o.op = .assign x) ∧ chkA n x x' = true := by
   simp only [chkEI] at hc
   split at hc
   ·exact ⟨_, .inl (by assumption), hc⟩
   ·exact ⟨_, .inr (by assumption), hc⟩
   ·cases hc
  obtain ⟨x, ho, h1⟩ := hc'
  have hex : (execOp a.eval o).run P w = .ok (.value (a.eval x)) w := by rcases ho with ho | ho <;> simp [execOp, ho]
  have k := chkA_rel hF h1
  simp only [wE] at h
  split at h <;> (try (cases h; done))
  ·rename_i q off m sz he
   split at h <;> (try (cases h; done))
   rename_i cs hcs
   obtain ⟨hin, hK⟩ := h
   rw [he] at k
   obtain ⟨_, cap, e1, hc, hb1, hb2⟩ := k
   have hlive := St.cells_hp hcs
   obtain ⟨_, hb0, ob, hob, row, ty, fr', rfl, hf, hs, hni, zs, hrz, onz, hrow⟩ := hW.hp q _ hlive
   have hfree : ∀ j y, (S.kill q).hp j = some y → (g.loc j).1 ≠ (g.loc q).1 := fun j y hy => by
    simp only [St.kill] at hy
    split at hy
    ·cases hy
    ·rename_i hjq; exact hW.sep j q y _ hy hlive hjq
   obtain ⟨g', l, h', rv⟩ := fin_val (q := (g.loc q).2 + off) (n := m) (sz := sz) (cap := cap) (hW.kill q) hob hf hs hb0 hfree ((hrz.drop off).take (m * sz)) ((onz.drop off).take (m * sz)) (fun j v hv => by
    rw [List.getElem?_take] at hv
    split at hv
    ·rw [List.getElem?_drop] at hv
     have := hrow _ v hv
     rwa [← Nat.add_assoc] at this
    ·cases hv) (fun i _ => hni i) (by rw [List.length_take, List.length_drop]; omega) hc (by rw [hs]; exact hb2)
   refine done_value hex l h' ?_ hK
   rw [e1]
   exact rv
  ·rename_i cs m sz tk he
   rw [he] at k
   exact done_value hex (G.le.refl g) hW k h
end
end Go.VM
