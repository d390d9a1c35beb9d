/-
  The value machine as a program that the kernel runs faster: what hangs on the code alone is a closed term of its own (the kernel reckons it once).
-/
import Derived.Test.YthpiomallkidlaaGreatDoorJ04
import Derived.Test.YthpiomallkidlaaGreatDoorJ03
set_option maxRecDepth 20000
set_option linter.unusedVariables false
set_option linter.unusedSimpArgs false
namespace Go.VM
open Go
def limX : IntKind → Nat
 | .i8 => 128
 | .i16 => 32768
 | .i32 => 2147483648
 | .i64 => 9223372036854775808
 | .u8 => 256
 | .u16 => 65536
 | .u32 => 4294967296
 | .u64 => 18446744073709551616
def isShift : BinOp → Bool
 | .shl => true
 | .shr => true
 | _ => false
def cellsX (S : CSt) (i : Nat) : Option (List V) := match S.hp.get i with
 | some (.cells cs) => some cs
 | _ => none
theorem cellsX_eq (S : CSt) (i : Nat) : cellsX S i = S.st.cells i := rfl
def addrX (off : Nat) (x : V) : Option V := match x with
 | .ptr (some (i, o)) => some (.ptr (some (i, o + off)))
 | .eptr cs => some (.eptr (cs.drop off))
 | _ => none
def loadX (agg : Bool) (sz : Nat) (a : V) (S : CSt) : Option V := match a with
 | .ptr (some (i, off)) => match cellsX S i with
  | some cs => takeC agg sz (cs.drop off)
  | none => none
 | .eptr cs => takeC agg sz cs
 | _ => none
def pairX (r : Option (V × CSt)) (k : KX) : Bool := match r with
 | some q => k q.1 q.2
 | none => false
abbrev F8 := N8 (N8 (N8 V))
def zGet (i : Nat) : F1 F8 V := ⟨fun fr => (zSel (Nat.mod i 8)).f ((zSel (Nat.mod (Nat.div i 8) 8)).f ((zSel (Nat.div i 64)).f fr))⟩
def zSet (i : Nat) : F1 V (F8 → F8) := ⟨fun v fr => (zUpd (Nat.div i 64)).f ((zUpd (Nat.mod (Nat.div i 8) 8)).f ((zUpd (Nat.mod i 8)).f (fun _ => v))) fr⟩
def F8.den (fr : F8) : Fr := fun i => if i < 512 then (zGet i).f fr else .tup []
def F8.nil : F8 := N8.all (N8.all (N8.all (.tup [])))
theorem F8.nil_den : F8.nil.den = fun _ => .tup [] := by
 funext i
 unfold F8.den
 split
 ·rename_i h
  show (zSel (i % 8)).f ((zSel (i / 8 % 8)).f ((zSel (i / 64)).f F8.nil)) = _
  unfold F8.nil
  rw [sel_all (by omega), sel_all (by omega), sel_all (by omega)]
 ·rfl
theorem F8.set_den {fr : F8} {d : Nat} {v : V} (h : d < 512) : ((zSet d).f v fr).den = fr.den.put (some d) v := by
 funext i
 unfold F8.den Fr.put
 simp only
 split
 ·rename_i hi
  show (zSel (i % 8)).f ((zSel (i / 8 % 8)).f ((zSel (i / 64)).f ((zUpd (d / 64)).f ((zUpd (d / 8 % 8)).f ((zUpd (d % 8)).f (fun _ => v))) fr))) = if i = d then v else (zSel (i % 8)).f ((zSel (i / 8 % 8)).f ((zSel (i / 64)).f fr))
  rw [sel_upd (by omega) (by omega)]
  by_cases h1 : i / 64 = d / 64
  ·rw [if_pos h1, sel_upd (by omega) (by omega)]
   by_cases h2 : i / 8 % 8 = d / 8 % 8
   ·rw [if_pos h2, sel_upd (by omega) (by omega)]
    by_cases h3 : i % 8 = d % 8
    ·rw [if_pos h3, if_pos (by omega)]
    ·rw [if_neg h3, if_neg (by omega)]
   ·rw [if_neg h2, if_neg (by rintro rfl; exact h2 rfl)]
  ·rw [if_neg h1, if_neg (by rintro rfl; exact h1 rfl)]
 ·rename_i hi
  rw [if_neg (by omega)]
theorem nbeq_iff (a b : Nat) : Nat.beq a b = decide (a = b) := by
 rw [Bool.eq_iff_iff, decide_eq_true_iff]
 exact ⟨Nat.eq_of_beq_eq_true, fun h => by rw [h]; exact Nat.beq_refl b⟩
theorem nblt_iff (a b : Nat) : Nat.blt a b = decide (a < b) := by
 rw [Bool.eq_iff_iff, decide_eq_true_iff, Nat.blt_eq]
noncomputable def cnd (c a b : Bool) : Bool := Bool.rec (motive := fun _ => Bool → Bool → Bool) (fun _ b => b) (fun a _ => a) c a b
noncomputable def frc (n : Nat) (k : Nat → Bool) : Bool := Nat.rec (motive := fun _ => (Nat → Bool) → Bool) (fun k => k 0) (fun m _ k => k (Nat.succ m)) n k
theorem frc_eq (n : Nat) (k : Nat → Bool) : frc n k = k n := by cases n <;> rfl
noncomputable def drL {α : Type} (n : Nat) (l : List α) : List α := Nat.rec (motive := fun _ => List α → List α) (fun l => l) (fun _ ih l => List.rec (motive := fun _ => List α) [] (fun _ r _ => ih r) l) n l
theorem drL_eq {α : Type} : ∀ (n : Nat) (l : List α), drL n l = l.drop n
 | 0, _ => rfl
 | _ + 1, [] => rfl
 | n + 1, _ :: r => drL_eq n r
noncomputable def tkL {α : Type} (n : Nat) (l : List α) : List α := Nat.rec (motive := fun _ => List α → List α) (fun _ => []) (fun _ ih l => List.rec (motive := fun _ => List α) [] (fun a r _ => a :: ih r) l) n l
theorem tkL_eq {α : Type} : ∀ (n : Nat) (l : List α), tkL n l = l.take n
 | 0, _ => rfl
 | _ + 1, [] => rfl
 | n + 1, a :: r => congrArg (a :: ·) (tkL_eq n r)
noncomputable def apL {α : Type} (a b : List α) : List α := List.rec (motive := fun _ => List α) b (fun x _ ih => x :: ih) a
theorem apL_eq {α : Type} (b : List α) : ∀ a : List α, apL a b = a ++ b
 | [] => rfl
 | x :: a => congrArg (x :: ·) (apL_eq b a)
noncomputable def lenL {α : Type} (l : List α) : Nat := List.rec (motive := fun _ => Nat) 0 (fun _ _ ih => Nat.succ ih) l
theorem lenL_eq {α : Type} : ∀ l : List α, lenL l = l.length
 | [] => rfl
 | _ :: l => congrArg Nat.succ (lenL_eq l)
noncomputable def nthL {α : Type} (n : Nat) (l : List α) (k : α → Bool) : Bool := Nat.rec (motive := fun _ => List α → Bool) (fun l => List.rec (motive := fun _ => Bool) false (fun a _ _ => k a) l) (fun _ ih l => List.rec (motive := fun _ => Bool) false (fun _ r _ => ih r) l) n l
theorem nthL_ok {α : Type} {k : α → Bool} : ∀ {n : Nat} {l : List α}, nthL n l k = true → ∃ a, l[n]? = some a ∧ (l.drop n).head? = some a ∧ k a = true
 | 0, [], h => by cases h
 | 0, a :: r, h => ⟨a, rfl, rfl, h⟩
 | n + 1, [], h => by cases h
 | n + 1, a :: r, h => by
  obtain ⟨b, h1, h2, h3⟩ := nthL_ok (n := n) (l := r) h
  exact ⟨b, h1, h2, h3⟩
noncomputable def tkK {α : Type} (n : Nat) (l : List α) (k : List α → Bool) : Bool := Nat.rec (motive := fun _ => List α → (List α → Bool) → Bool) (fun _ k => k []) (fun _ ih l k => List.rec (motive := fun _ => Bool) false (fun a r _ => ih r fun t => k (a :: t)) l) n l k
theorem tkK_ok {α : Type} : ∀ {n : Nat} {l : List α} {k : List α → Bool}, tkK n l k = true → n ≤ l.length ∧ k (l.take n) = true
 | 0, l, k, h => ⟨Nat.zero_le _, h⟩
 | n + 1, [], k, h => by cases h
 | n + 1, a :: r, k, h => by
  obtain ⟨h1, h2⟩ := tkK_ok (n := n) (l := r) (k := fun t => k (a :: t)) h
  exact ⟨Nat.succ_le_succ h1, h2⟩
noncomputable def subL {α : Type} (xs cs : List α) (k : List α → Bool) : Bool := List.rec (motive := fun _ => List α → (List α → Bool) → Bool) (fun cs k => k cs) (fun x _ ih cs k => List.rec (motive := fun _ => Bool) false (fun _ r _ => ih r fun t => k (x :: t)) cs) xs cs k
theorem subL_ok {α : Type} : ∀ {xs cs : List α} {k : List α → Bool}, subL xs cs k = true → xs.length ≤ cs.length ∧ k (xs ++ cs.drop xs.length) = true
 | [], cs, k, h => ⟨Nat.zero_le _, h⟩
 | x :: xs, [], k, h => by cases h
 | x :: xs, c :: cs, k, h => by
  obtain ⟨h1, h2⟩ := subL_ok (xs := xs) (cs := cs) (k := fun t => k (x :: t)) h
  exact ⟨Nat.succ_le_succ h1, h2⟩
noncomputable def splL {α : Type} (n : Nat) (xs cs : List α) (k : List α → Bool) : Bool := Nat.rec (motive := fun _ => List α → (List α → Bool) → Bool) (fun cs k => subL xs cs k) (fun _ ih cs k => List.rec (motive := fun _ => Bool) false (fun c r _ => ih r fun t => k (c :: t)) cs) n cs k
theorem splL_ok : ∀ {n : Nat} {xs cs : List V} {k : List V → Bool}, splL n xs cs k = true → n + xs.length ≤ cs.length ∧ k (splice cs n xs) = true
 | 0, xs, cs, k, h => by
  obtain ⟨h1, h2⟩ := subL_ok (xs := xs) (cs := cs) (k := k) h
  refine ⟨by omega, ?_⟩
  simp only [splice, List.take_zero, List.nil_append, Nat.zero_add]
  exact h2
 | n + 1, xs, [], k, h => by cases h
 | n + 1, xs, c :: cs, k, h => by
  obtain ⟨h1, h2⟩ := splL_ok (n := n) (xs := xs) (cs := cs) (k := fun t => k (c :: t)) h
  refine ⟨by simp only [List.length_cons]; omega, ?_⟩
  have e : splice (c :: cs) (n + 1) xs = c :: splice cs n xs := by
   simp only [splice, List.take_succ_cons, List.cons_append]
   rw [show n + 1 + xs.length = (n + xs.length) + 1 by omega, List.drop_succ_cons]
  rw [e]; exact h2
noncomputable def asInt (v : V) (k : IntKind → Int → Bool) (d : Bool) : Bool := V.rec (motive_1 := fun _ => (IntKind → Int → Bool) → Bool → Bool) (motive_2 := fun _ => (IntKind → Int → Bool) → Bool → Bool)
 (fun _ _ d => d) (fun kd n k _ => k kd n) (fun _ _ d => d) (fun _ _ d => d) (fun _ _ _ d => d) (fun _ _ _ _ _ _ d => d) (fun _ _ _ _ _ d => d) (fun _ _ d => d) (fun _ _ d => d) (fun _ _ _ _ _ _ d => d) (fun _ d => d) (fun _ _ _ _ d => d) (fun _ d => d) (fun _ _ _ d => d) (fun _ _ _ d => d) (fun _ _ d => d) (fun _ d => d) (fun _ _ => false) (fun _ _ _ _ _ _ => false) v k d
noncomputable def asBool (v : V) (k : Bool → Bool) : Bool := V.rec (motive_1 := fun _ => (Bool → Bool) → Bool) (motive_2 := fun _ => (Bool → Bool) → Bool)
 (fun b k => k b) (fun _ _ _ => false) (fun _ _ => false) (fun _ _ => false) (fun _ _ _ => false) (fun _ _ _ _ _ _ => false) (fun _ _ _ _ _ => false) (fun _ _ => false) (fun _ _ => false) (fun _ _ _ _ _ _ => false) (fun _ => false) (fun _ _ _ _ => false) (fun _ => false) (fun _ _ _ => false) (fun _ _ _ => false) (fun _ _ => false) (fun _ => false) (fun _ => false) (fun _ _ _ _ _ => false) v k
noncomputable def asStr (v : V) (k : ByteArray → Bool) : Bool := V.rec (motive_1 := fun _ => (ByteArray → Bool) → Bool) (motive_2 := fun _ => (ByteArray → Bool) → Bool)
 (fun _ _ => false) (fun _ _ _ => false) (fun s k => k s) (fun _ _ => false) (fun _ _ _ => false) (fun _ _ _ _ _ _ => false) (fun _ _ _ _ _ => false) (fun _ _ => false) (fun _ _ => false) (fun _ _ _ _ _ _ => false) (fun _ => false) (fun _ _ _ _ => false) (fun _ => false) (fun _ _ _ => false) (fun _ _ _ => false) (fun _ _ => false) (fun _ => false) (fun _ => false) (fun _ _ _ _ _ => false) v k
noncomputable def asPtr (v : V) (k : Nat → Nat → Bool) (e : List V → Bool) : Bool := V.rec (motive_1 := fun _ => (Nat → Nat → Bool) → (List V → Bool) → Bool) (motive_2 := fun _ => (Nat → Nat → Bool) → (List V → Bool) → Bool)
 (fun _ _ _ => false) (fun _ _ _ _ => false) (fun _ _ _ => false) (fun p k _ => Option.rec (motive := fun _ => (Nat → Nat → Bool) → Bool) (fun _ => false) (fun q k => Prod.rec (motive := fun _ => (Nat → Nat → Bool) → Bool) (fun i o k => k i o) q k) p k) (fun cs _ _ e => e cs) (fun _ _ _ _ _ _ _ => false) (fun _ _ _ _ _ _ => false) (fun _ _ _ => false) (fun _ _ _ => false) (fun _ _ _ _ _ _ _ => false) (fun _ _ => false) (fun _ _ _ _ _ => false) (fun _ _ => false) (fun _ _ _ _ => false) (fun _ _ _ _ => false) (fun _ _ _ => false) (fun _ _ => false) (fun _ _ => false) (fun _ _ _ _ _ _ => false) v k e
noncomputable def asSl (v : V) (k : List V → Nat → Nat → Tok → Bool) (m : Nat → Nat → Nat → Nat → Bool) : Bool := V.rec (motive_1 := fun _ => (List V → Nat → Nat → Tok → Bool) → (Nat → Nat → Nat → Nat → Bool) → Bool) (motive_2 := fun _ => (List V → Nat → Nat → Tok → Bool) → (Nat → Nat → Nat → Nat → Bool) → Bool)
 (fun _ _ _ => false) (fun _ _ _ _ => false) (fun _ _ _ => false) (fun _ _ _ => false) (fun _ _ _ _ => false) (fun cs n sz t _ k _ => k cs n sz t) (fun o off n sz _ m => m o off n sz) (fun _ _ _ => false) (fun _ _ _ => false) (fun _ _ _ _ _ _ _ => false) (fun _ _ => false) (fun _ _ _ _ _ => false) (fun _ _ => false) (fun _ _ _ _ => false) (fun _ _ _ _ => false) (fun _ _ _ => false) (fun _ _ => false) (fun _ _ => false) (fun _ _ _ _ _ _ => false) v k m
noncomputable def asAgg (v : V) (k : List V → Bool) : Bool := V.rec (motive_1 := fun _ => (List V → Bool) → Bool) (motive_2 := fun _ => (List V → Bool) → Bool)
 (fun _ _ => false) (fun _ _ _ => false) (fun _ _ => false) (fun _ _ => false) (fun _ _ _ => false) (fun _ _ _ _ _ _ => false) (fun _ _ _ _ _ => false) (fun _ _ => false) (fun _ _ => false) (fun _ _ _ _ _ _ => false) (fun _ => false) (fun _ _ _ _ => false) (fun _ => false) (fun cs _ k => k cs) (fun _ _ _ => false) (fun _ _ => false) (fun _ => false) (fun _ => false) (fun _ _ _ _ _ => false) v k
noncomputable def asTup (v : V) (k : List V → Bool) : Bool := V.rec (motive_1 := fun _ => (List V → Bool) → Bool) (motive_2 := fun _ => (List V → Bool) → Bool)
 (fun _ _ => false) (fun _ _ _ => false) (fun _ _ => false) (fun _ _ => false) (fun _ _ _ => false) (fun _ _ _ _ _ _ => false) (fun _ _ _ _ _ => false) (fun _ _ => false) (fun _ _ => false) (fun _ _ _ _ _ _ => false) (fun _ => false) (fun _ _ _ _ => false) (fun _ => false) (fun _ _ _ => false) (fun vs _ k => k vs) (fun _ _ => false) (fun _ => false) (fun _ => false) (fun _ _ _ _ _ => false) v k
noncomputable def cellsZ (v : V) (k : List V → Bool) (o : Bool) : Bool := V.rec (motive_1 := fun _ => (List V → Bool) → Bool → Bool) (motive_2 := fun _ => (List V → Bool) → Bool → Bool)
 (fun _ _ o => o) (fun _ _ _ o => o) (fun _ _ o => o) (fun _ _ o => o) (fun _ _ _ o => o) (fun _ _ _ _ _ _ o => o) (fun _ _ _ _ _ o => o) (fun _ _ o => o) (fun _ _ o => o) (fun _ _ _ _ _ _ o => o) (fun _ o => o) (fun _ _ _ _ o => o) (fun _ o => o) (fun cs _ k _ => k cs) (fun _ _ _ _ => false) (fun _ _ o => o) (fun _ _ => false) (fun _ _ => false) (fun _ _ _ _ _ _ => false) v k o
noncomputable def oneZ (v : V) : Bool := V.rec (motive_1 := fun _ => Bool) (motive_2 := fun _ => Bool)
 (fun _ => true) (fun _ _ => true) (fun _ => true) (fun _ => true) (fun _ _ => true) (fun _ _ _ _ _ => true) (fun _ _ _ _ => true) (fun _ => true) (fun _ => true) (fun _ _ _ _ _ => true) true (fun _ _ _ => true) true (fun _ _ => false) (fun _ _ => false) (fun _ => true) false false (fun _ _ _ _ => false) v
noncomputable def sealT (t : Tok) (k : Tok → Bool) : Bool := Tok.rec (motive := fun _ => Bool) (k .nil) (k .cap) (k .no) (fun a => frc a fun a => k (.at a)) t
theorem sealT_eq (t : Tok) (k : Tok → Bool) : sealT t k = k t := by
 cases t <;> first | rfl | exact frc_eq _ fun a => k (.at a)
noncomputable def sealO (p : Option Nat) (k : Option Nat → Bool) : Bool := Option.rec (motive := fun _ => Bool) (k none) (fun a => frc a fun a => k (some a)) p
theorem sealO_eq (p : Option Nat) (k : Option Nat → Bool) : sealO p k = k p := by
 cases p <;> first | rfl | exact frc_eq _ fun a => k (some a)
noncomputable def sealZ (v : V) (k : V → Bool) : Bool := V.rec (motive_1 := fun _ => Bool) (motive_2 := fun _ => Bool)
 (fun b => Bool.rec (motive := fun _ => Bool) (k (.bool false)) (k (.bool true)) b) (fun kd n => Int.rec (motive := fun _ => Bool) (fun m => frc m fun m => k (.int kd (.ofNat m))) (fun m => frc m fun m => k (.int kd (.negSucc m))) n) (fun s => k (.str s)) (fun p => Option.rec (motive := fun _ => Bool) (k (.ptr none)) (fun q => Prod.rec (motive := fun _ => Bool) (fun i o => frc i fun i => frc o fun o => k (.ptr (some (i, o)))) q) p) (fun cs _ => k (.eptr cs)) (fun cs n sz t _ => frc n fun n => sealT t fun t => k (.sl cs n sz t)) (fun a b c d => frc a fun a => frc b fun b => frc c fun c => k (.msl a b c d)) (fun r => sealO r fun r => k (.map r)) (fun r => frc r fun r => k (.iter r)) (fun f a b _ _ => k (.func f a b)) (k .nilFunc) (fun t v _ => k (.iface t v)) (k .nilIface) (fun cs _ => k (.agg cs)) (fun cs _ => k (.tup cs)) (fun a => k (.abs a)) (k .poison) false (fun _ _ _ _ => false) v
theorem sealZ_eq (v : V) (k : V → Bool) : sealZ v k = k v := by
 cases v <;> try rfl
 case bool b => cases b <;> rfl
 case int kd n => cases n <;> first | exact frc_eq _ fun m => k (.int kd (.ofNat m)) | exact frc_eq _ fun m => k (.int kd (.negSucc m))
 case ptr p =>
  cases p with
  | none => rfl
  | some q => obtain ⟨i, o⟩ := q; exact (frc_eq i fun i => frc o fun o => k (.ptr (some (i, o)))).trans (frc_eq o fun o => k (.ptr (some (i, o))))
 case sl cs n sz t => exact (frc_eq n fun n => sealT t fun t => k (.sl cs n sz t)).trans (sealT_eq t fun t => k (.sl cs n sz t))
 case msl a b c d => exact (frc_eq a fun a => frc b fun b => frc c fun c => k (.msl a b c d)).trans ((frc_eq b fun b => frc c fun c => k (.msl a b c d)).trans (frc_eq c fun c => k (.msl a b c d)))
 case map r => exact sealO_eq r fun r => k (.map r)
 case iter r => exact frc_eq r fun r => k (.iter r)
noncomputable def allOne (l : List V) : Bool := List.rec (motive := fun _ => Bool) true (fun x _ ih => cnd (oneZ x) ih false) l
theorem oneZ_eq (v : V) : oneZ v = v.one := by cases v <;> rfl
theorem allOne_eq : ∀ l : List V, allOne l = l.all V.one
 | [] => rfl
 | x :: r => by
  show cnd (oneZ x) (allOne r) false = _
  rw [oneZ_eq, allOne_eq r, List.all_cons]
  cases V.one x <;> rfl
theorem asInt_ok {v : V} {k : IntKind → Int → Bool} (h : asInt v k false = true) : ∃ kd n, v = .int kd n ∧ k kd n = true := by
 cases v <;> first | exact ⟨_, _, rfl, h⟩ | cases h
theorem asInt_or {v : V} {k : IntKind → Int → Bool} {d : Bool} (h : asInt v k d = true) : (∃ kd n, v = .int kd n ∧ k kd n = true) ∨ d = true := by
 cases v <;> first | exact .inl ⟨_, _, rfl, h⟩ | exact .inr h
theorem asBool_ok {v : V} {k : Bool → Bool} (h : asBool v k = true) : ∃ b, v = .bool b ∧ k b = true := by
 cases v <;> first | exact ⟨_, rfl, h⟩ | cases h
theorem asStr_ok {v : V} {k : ByteArray → Bool} (h : asStr v k = true) : ∃ b, v = .str b ∧ k b = true := by
 cases v <;> first | exact ⟨_, rfl, h⟩ | cases h
theorem asAgg_ok {v : V} {k : List V → Bool} (h : asAgg v k = true) : ∃ b, v = .agg b ∧ k b = true := by
 cases v <;> first | exact ⟨_, rfl, h⟩ | cases h
theorem asTup_ok {v : V} {k : List V → Bool} (h : asTup v k = true) : ∃ b, v = .tup b ∧ k b = true := by
 cases v <;> first | exact ⟨_, rfl, h⟩ | cases h
theorem asPtr_ok {v : V} {k : Nat → Nat → Bool} {e : List V → Bool} (h : asPtr v k e = true) : (∃ i o, v = .ptr (some (i, o)) ∧ k i o = true) ∨ (∃ cs, v = .eptr cs ∧ e cs = true) := by
 cases v <;> try (cases h; done)
 case ptr p =>
  cases p with
  | none => cases h
  | some q => obtain ⟨i, o⟩ := q; exact .inl ⟨i, o, rfl, h⟩
 case eptr cs => exact .inr ⟨cs, rfl, h⟩
theorem asSl_ok {v : V} {k : List V → Nat → Nat → Tok → Bool} {m : Nat → Nat → Nat → Nat → Bool} (h : asSl v k m = true) : (∃ cs n sz t, v = .sl cs n sz t ∧ k cs n sz t = true) ∨ (∃ o off n sz, v = .msl o off n sz ∧ m o off n sz = true) := by
 cases v <;> try (cases h; done)
 case sl cs n sz t => exact .inl ⟨cs, n, sz, t, rfl, h⟩
 case msl a b c d => exact .inr ⟨a, b, c, d, rfl, h⟩
theorem cellsZ_ok {v : V} {k : List V → Bool} {o : Bool} (h : cellsZ v k o = true) : (∃ cs, v = .agg cs ∧ k cs = true) ∨ (v.cells = [v] ∧ v.one = true ∧ o = true) := by
 cases v <;> first | exact .inr ⟨rfl, rfl, h⟩ | exact .inl ⟨_, rfl, h⟩ | cases h
noncomputable def natI (n : Int) (k : Nat → Bool) (d : Bool) : Bool := Int.rec (motive := fun _ => (Nat → Bool) → Bool → Bool) (fun m k _ => k m) (fun _ _ d => d) n k d
theorem natI_or {n : Int} {k : Nat → Bool} {d : Bool} (h : natI n k d = true) : (∃ m : Nat, n = (m : Int) ∧ k m = true) ∨ d = true := by
 cases n with
 | ofNat m => exact .inl ⟨m, rfl, h⟩
 | negSucc m => exact .inr h
theorem beq_n {a b : Nat} (h : Nat.beq a b = true) : a = b := Nat.eq_of_beq_eq_true h
theorem ble_n {a b : Nat} (h : Nat.ble a b = true) : a ≤ b := Nat.le_of_ble_eq_true h
theorem blt_n {a b : Nat} (h : Nat.blt a b = true) : a < b := by rw [Nat.blt_eq] at h; exact h
theorem cond_f {a b : Bool} (h : cnd a b false = true) : a = true ∧ b = true := by
 cases a
 ·cases h
 ·exact ⟨rfl, h⟩
theorem cond_or {a b c : Bool} (h : cnd a b c = true) : (a = true ∧ b = true) ∨ c = true := by
 cases a
 ·exact .inr h
 ·exact .inl ⟨rfl, h⟩
noncomputable def kindNo (k : IntKind) : Nat := IntKind.rec (motive := fun _ => Nat) 0 1 2 3 4 5 6 7 k
theorem kindNo_inj {a b : IntKind} (h : Nat.beq (kindNo a) (kindNo b) = true) : a = b := by
 cases a <;> cases b <;> first | rfl | cases h
noncomputable def limZ (k : IntKind) : Nat := IntKind.rec (motive := fun _ => Nat) (limX .i8) (limX .i16) (limX .i32) (limX .i64) (limX .u8) (limX .u16) (limX .u32) (limX .u64) k
theorem limZ_eq (k : IntKind) : limZ k = limX k := by cases k <;> rfl
noncomputable def unsZ (k : IntKind) : Bool := IntKind.rec (motive := fun _ => Bool) false false false false true true true true k
theorem wrap_lt {k : IntKind} {m : Nat} (h : m < limX k) : k.wrap (m : Int) = (m : Int) := by
 rw [IntKind.wrap]
 cases k <;> simp only [limX] at h <;> simp [IntKind.bits, IntKind.signed] <;> omega
theorem wrap_uns {k : IntKind} (h : unsZ k = true) (m : Nat) : k.wrap (m : Int) = ((m % limX k : Nat) : Int) := by
 rw [IntKind.wrap]
 cases k <;> first | (cases h; done) | (simp [IntKind.bits, IntKind.signed, limX])
def zA (a : Arg) : F1 F8 V := match a with
 | .t i => cond (Nat.blt i 512) ⟨fun fr => (zGet i).f fr⟩ ⟨fun _ => .tup []⟩
 | .c v => ⟨fun _ => v⟩
theorem zA_eq (a : Arg) (fr : F8) : (zA a).f fr = a.ev fr.den := by
 cases a with
 | c v => rfl
 | t i =>
  show (cond (Nat.blt i 512) (F1.mk fun fr => (zGet i).f fr) ⟨fun _ => .tup []⟩ : F1 F8 V).f fr = F8.den fr i
  unfold F8.den
  cases h : Nat.blt i 512
  ·rw [if_neg (by intro h2; rw [← Nat.blt_eq, h] at h2; cases h2)]; rfl
  ·rw [Nat.blt_eq] at h
   rw [if_pos h]; rfl
def eqvX (neg : Bool) (k : TK) (x y : V) : Option V := match V.eq k x y with
 | some b => some (.bool (cond neg (!b) b))
 | none => none
theorem eqvX_eq (neg : Bool) (k : TK) (x y : Arg) (fr : Fr) (S : CSt) : eqvX neg k (x.ev fr) (y.ev fr) = aF (.eq neg k x y) fr S.st := by
 simp only [aF, eqvX]
 cases V.eq k (x.ev fr) (y.ev fr) with
 | none => rfl
 | some b => cases neg <;> rfl
def kOpt (r : Option V) (k : V → Bool) : Bool := match r with
 | some v => k v
 | none => false
theorem kOpt_some {r : Option V} {k : V → Bool} (h : kOpt r k = true) : ∃ v, r = some v ∧ k v = true := by
 cases r with
 | none => cases h
 | some v => exact ⟨v, rfl, h⟩
noncomputable def slowO (r : Option V) (k : V → Bool) : Bool := kOpt r fun v => sealZ v k
theorem slowO_ok {r : Option V} {k : V → Bool} (h : slowO r k = true) : ∃ v, r = some v ∧ k v = true := by
 obtain ⟨v, h1, h2⟩ := kOpt_some h
 rw [sealZ_eq] at h2
 exact ⟨v, h1, h2⟩
noncomputable def finZ (kd : IntKind) (r : Nat) (k : V → Bool) (d : Bool) : Bool := frc r fun r => cnd (Nat.blt r (limZ kd)) (k (.int kd (.ofNat r))) (cnd (unsZ kd) (frc (Nat.mod r (limZ kd)) fun r => k (.int kd (.ofNat r))) d)
theorem finZ_ok {kd : IntKind} {r : Nat} {k : V → Bool} {d : Bool} (h : finZ kd r k d = true) : k (.int kd (kd.wrap (r : Int))) = true ∨ d = true := by
 unfold finZ at h
 rw [frc_eq, limZ_eq] at h
 cases hb : Nat.blt r (limX kd) <;> rw [hb] at h
 ·cases hu : unsZ kd <;> rw [hu] at h
  ·exact .inr h
  ·have h : frc (Nat.mod r (limX kd)) (fun r => k (.int kd (.ofNat r))) = true := h
   rw [frc_eq] at h
   rw [wrap_uns hu]; exact .inl h
 ·rw [wrap_lt (blt_n hb)]; exact .inl h
structure NB where
 f : IntKind → Nat → Nat → (V → Bool) → Bool → Bool
noncomputable def binN (op : BinOp) : NB := match op with
 | .add => ⟨fun kd a b k d => finZ kd (Nat.add a b) k d⟩
 | .sub => ⟨fun kd a b k d => cnd (Nat.ble b a) (finZ kd (Nat.sub a b) k d) d⟩
 | .mul => ⟨fun kd a b k d => finZ kd (Nat.mul a b) k d⟩
 | .quo => ⟨fun kd a b k d => cnd (Nat.beq b 0) d (finZ kd (Nat.div a b) k d)⟩
 | .rem => ⟨fun kd a b k d => cnd (Nat.beq b 0) d (frc (Nat.mod a b) fun r => k (.int kd (.ofNat r)))⟩
 | .eql => ⟨fun _ a b k _ => cnd (Nat.beq a b) (k (.bool true)) (k (.bool false))⟩
 | .neq => ⟨fun _ a b k _ => cnd (Nat.beq a b) (k (.bool false)) (k (.bool true))⟩
 | .lss => ⟨fun _ a b k _ => cnd (Nat.blt a b) (k (.bool true)) (k (.bool false))⟩
 | .leq => ⟨fun _ a b k _ => cnd (Nat.ble a b) (k (.bool true)) (k (.bool false))⟩
 | .gtr => ⟨fun _ a b k _ => cnd (Nat.blt b a) (k (.bool true)) (k (.bool false))⟩
 | .geq => ⟨fun _ a b k _ => cnd (Nat.ble b a) (k (.bool true)) (k (.bool false))⟩
 | .and => ⟨fun kd a b k d => cnd (Nat.blt a (limZ kd)) (cnd (Nat.blt b (limZ kd)) (finZ kd (Nat.land a b) k d) d) d⟩
 | .or => ⟨fun kd a b k d => cnd (Nat.blt a (limZ kd)) (cnd (Nat.blt b (limZ kd)) (finZ kd (Nat.lor a b) k d) d) d⟩
 | .xor => ⟨fun kd a b k d => cnd (Nat.blt a (limZ kd)) (cnd (Nat.blt b (limZ kd)) (finZ kd (Nat.xor a b) k d) d) d⟩
 | _ => ⟨fun _ _ _ _ d => d⟩
theorem cond_cases {a b c : Bool} (h : cnd a b c = true) : (a = true ∧ b = true) ∨ (a = false ∧ c = true) := by
 cases a
 ·exact .inr ⟨rfl, h⟩
 ·exact .inl ⟨rfl, h⟩
theorem lim_bits {kd : IntKind} {a : Nat} (h : a < limX kd) : a < 2 ^ kd.bits := by
 cases kd <;> simp only [limX] at h <;> simp only [IntKind.bits] <;> omega
theorem ofI {w a : Nat} (h : a < 2 ^ w) : (BitVec.ofInt w (a : Int)).toNat = a := by
 rw [BitVec.toNat_ofInt]
 have : ((a : Int) % ((2 ^ w : Nat) : Int)) = (a : Int) := Int.emod_eq_of_lt (by omega) (by exact_mod_cast h)
 rw [this]; rfl
theorem binN_ok {op : BinOp} {kd : IntKind} {a b : Nat} {k : V → Bool} {d : Bool} (h : (binN op).f kd a b k d = true) : (∃ v, binInt op kd (a : Int) (b : Int) = some v ∧ k v = true) ∨ d = true := by
 have fin : ∀ (r : Nat) (x : Int), (r : Int) = x → finZ kd r k d = true → (∃ v, some (V.int kd (kd.wrap x)) = some v ∧ k v = true) ∨ d = true := fun r x e h => by
  subst e
  replace h := finZ_ok h
  rcases h with h | h
  ·exact .inl ⟨_, rfl, h⟩
  ·exact .inr h
 have cmp : ∀ (p x : Bool), cnd p (k (.bool true)) (k (.bool false)) = true → p = x → (∃ v, some (V.bool x) = some v ∧ k v = true) ∨ d = true := fun p x h e => by
  subst e
  cases p <;> exact .inl ⟨_, rfl, h⟩
 have dz : (b : Int) = 0 ↔ b = 0 := by omega
 cases op <;> simp only [binN] at h <;> try exact .inr h
 case add => exact fin _ _ (by simp) h
 case sub =>
  replace h := cond_or h
  rcases h with ⟨h1, h2⟩ | h
  ·exact fin _ _ (by have := ble_n h1; show ((a - b : Nat) : Int) = _; omega) h2
  ·exact .inr h
 case mul => exact fin _ _ (by simp) h
 case quo =>
  replace h := cond_cases h
  rcases h with ⟨h1, h2⟩ | ⟨h1, h2⟩
  ·exact .inr h2
  ·have hb : ¬ (b : Int) = 0 := fun e => by rw [dz.1 e] at h1; cases h1
   simp only [binInt, if_neg hb]
   exact fin _ _ rfl h2
 case rem =>
  replace h := cond_cases h
  rcases h with ⟨h1, h2⟩ | ⟨h1, h2⟩
  ·exact .inr h2
  ·have hb : ¬ (b : Int) = 0 := fun e => by rw [dz.1 e] at h1; cases h1
   rw [frc_eq] at h2
   refine .inl ⟨_, ?_, h2⟩
   simp only [binInt, if_neg hb]
   congr 2
 case eql => exact cmp _ _ h (by rw [nbeq_iff, Bool.eq_iff_iff]; simp [Int.ofNat_inj])
 case neq =>
  replace h := cond_cases h
  rcases h with ⟨h1, h2⟩ | ⟨h1, h2⟩
  ·refine .inl ⟨_, ?_, h2⟩
   have := beq_n h1
   subst this
   simp [binInt]
  ·refine .inl ⟨_, ?_, h2⟩
   rw [nbeq_iff, decide_eq_false_iff_not] at h1
   have : ¬ (a : Int) = (b : Int) := by omega
   simp [binInt, this]
 case lss => exact cmp _ _ h (by rw [nblt_iff]; simp)
 case leq => exact cmp _ _ h (by rw [Bool.eq_iff_iff, Nat.ble_eq]; simp)
 case gtr => exact cmp _ _ h (by rw [nblt_iff]; simp)
 case geq => exact cmp _ _ h (by rw [Bool.eq_iff_iff, Nat.ble_eq]; simp)
 case and =>
  replace h := cond_or h
  rcases h with ⟨h1, h⟩ | h
  ·replace h := cond_or h
   rcases h with ⟨h2, h⟩ | h
   ·rw [limZ_eq] at h1 h2
    refine fin _ _ ?_ h
    rw [BitVec.toNat_and, ofI (lim_bits (blt_n h1)), ofI (lim_bits (blt_n h2))]; rfl
   ·exact .inr h
  ·exact .inr h
 case or =>
  replace h := cond_or h
  rcases h with ⟨h1, h⟩ | h
  ·replace h := cond_or h
   rcases h with ⟨h2, h⟩ | h
   ·rw [limZ_eq] at h1 h2
    refine fin _ _ ?_ h
    rw [BitVec.toNat_or, ofI (lim_bits (blt_n h1)), ofI (lim_bits (blt_n h2))]; rfl
   ·exact .inr h
  ·exact .inr h
 case xor =>
  replace h := cond_or h
  rcases h with ⟨h1, h⟩ | h
  ·replace h := cond_or h
   rcases h with ⟨h2, h⟩ | h
   ·rw [limZ_eq] at h1 h2
    refine fin _ _ ?_ h
    rw [BitVec.toNat_xor, ofI (lim_bits (blt_n h1)), ofI (lim_bits (blt_n h2))]; rfl
   ·exact .inr h
  ·exact .inr h
noncomputable def shN (op : BinOp) : NB := match op with
 | .shl => ⟨fun kd a b k d => cnd (Nat.ble b kd.bits) (finZ kd (Nat.mul a (Nat.pow 2 b)) k d) d⟩
 | .shr => ⟨fun kd a b k d => cnd (Nat.ble b kd.bits) (frc (Nat.div a (Nat.pow 2 b)) fun r => k (.int kd (.ofNat r))) d⟩
 | _ => ⟨fun _ _ _ _ d => d⟩
theorem shN_ok {op : BinOp} {kd kb : IntKind} {a b : Nat} {k : V → Bool} {d : Bool} (h : (shN op).f kd a b k d = true) : (∃ v, V.bin op (.int kd (a : Int)) (.int kb (b : Int)) = some v ∧ k v = true) ∨ d = true := by
 cases op <;> simp only [shN] at h <;> try exact .inr h
 case shl =>
  replace h := cond_or h
  rcases h with ⟨h1, h⟩ | h
  ·have h1 := ble_n h1
   replace h := finZ_ok h
   rcases h with h | h
   ·refine .inl ⟨_, ?_, h⟩
    have e : min b kd.bits = b := by omega
    simp only [V.bin, Int.toNat_natCast, e]
    rw [if_neg (by omega)]
    congr 3
   ·exact .inr h
  ·exact .inr h
 case shr =>
  replace h := cond_or h
  rcases h with ⟨h1, h⟩ | h
  ·have h1 := ble_n h1
   rw [frc_eq] at h
   refine .inl ⟨_, ?_, h⟩
   have e : min b kd.bits = b := by omega
   simp only [V.bin, Int.toNat_natCast, e]
   rw [if_neg (by omega)]
   congr 2
   show (a : Int).fdiv (2 ^ b) = ((a / 2 ^ b : Nat) : Int)
   rw [Int.fdiv_eq_ediv_of_nonneg _ (by exact_mod_cast Nat.zero_le _)]
   norm_cast
  ·exact .inr h
noncomputable def eqL (a b : List UInt8) : Bool := List.rec (motive := fun _ => List UInt8 → Bool) (fun b => List.rec (motive := fun _ => Bool) true (fun _ _ _ => false) b) (fun x _ ih b => List.rec (motive := fun _ => Bool) false (fun y r _ => cnd (Nat.beq x.toNat y.toNat) (ih r) false) b) a b
theorem eqL_eq : ∀ a b : List UInt8, eqL a b = decide (a = b)
 | [], [] => rfl
 | [], _ :: _ => rfl
 | _ :: _, [] => rfl
 | x :: a, y :: b => by
  show cnd (Nat.beq x.toNat y.toNat) (eqL a b) false = _
  rw [eqL_eq a b, nbeq_iff]
  by_cases h : x = y
  ·subst h; simp; rfl
  ·have : ¬ x.toNat = y.toNat := fun e => h (UInt8.toNat_inj.1 e)
   simp [h, this]; rfl
noncomputable def strL (s : ByteArray) : List UInt8 := s.data.toList
theorem mkS_strL (s : ByteArray) : mkS (strL s) = s := by cases s; simp [mkS, strL]
structure SB where
 f : ByteArray → ByteArray → (V → Bool) → Bool
noncomputable def strO (op : BinOp) : SB := match op with
 | .eql => ⟨fun x y k => cnd (eqL (strL x) (strL y)) (k (.bool true)) (k (.bool false))⟩
 | .neq => ⟨fun x y k => cnd (eqL (strL x) (strL y)) (k (.bool false)) (k (.bool true))⟩
 | .add => ⟨fun x y k => cnd (Nat.ble (Nat.add (lenL (strL x)) (lenL (strL y))) 1000000000000) (k (.str (mkS (apL (strL x) (strL y))))) false⟩
 | op => ⟨fun x y k => slowO (binStr op x y) k⟩
theorem strO_ok {op : BinOp} {x y : ByteArray} {k : V → Bool} (h : (strO op).f x y k = true) : ∃ v, V.bin op (.str x) (.str y) = some v ∧ k v = true := by
 have key : ∀ x y : ByteArray, ∃ a b, x = mkS a ∧ y = mkS b ∧ strL x = a ∧ strL y = b := fun x y => ⟨strL x, strL y, (mkS_strL x).symm, (mkS_strL y).symm, rfl, rfl⟩
 obtain ⟨a, b, rfl, rfl, e1, e2⟩ := key x y
 cases op <;> simp only [strO, e1, e2] at h <;> try exact slowO_ok h
 case eql =>
  rw [eqL_eq] at h
  show ∃ v, binStr .eql _ _ = some v ∧ _
  rw [str_eql]
  cases hd : decide (a = b) <;> rw [hd] at h <;> exact ⟨_, rfl, h⟩
 case neq =>
  rw [eqL_eq] at h
  show ∃ v, binStr .neq _ _ = some v ∧ _
  rw [str_neq]
  cases hd : decide (a = b) <;> rw [hd] at h <;> exact ⟨_, rfl, h⟩
 case add =>
  replace h := cond_f h
  obtain ⟨h1, h2⟩ := h
  rw [lenL_eq, lenL_eq] at h1
  show ∃ v, binStr .add _ _ = some v ∧ _
  rw [str_add' (ble_n h1)]
  rw [apL_eq] at h2
  exact ⟨_, rfl, h2⟩
structure B2 where
 f : V → V → (V → Bool) → Bool
noncomputable def binS (op : BinOp) (a b : V) (k : V → Bool) : Bool := slowO (V.bin op a b) k
def isAbs (v : V) : Bool := match v with
 | .abs _ => true
 | _ => false
noncomputable def binT (op : BinOp) (a b : V) (k : V → Bool) : Bool := cnd (isAbs a) (binS op a b k) (asStr a fun x => asStr b fun y => (strO op).f x y k)
noncomputable def binZ (op : BinOp) : B2 := match isShift op with
 | true => ⟨fun a b k => asInt a (fun ka m => asInt b (fun _ n => natI m (fun m => natI n (fun n => (shN op).f ka m n k (binS op a b k)) (binS op a b k)) (binS op a b k)) false) false⟩
 | false => ⟨fun a b k => asInt a (fun ka m => asInt b (fun kb n => cnd (Nat.beq (kindNo ka) (kindNo kb)) (natI m (fun m => natI n (fun n => (binN op).f ka m n k (binS op a b k)) (binS op a b k)) (binS op a b k)) false) (cnd (isAbs b) (binS op a b k) false)) (binT op a b k)⟩
theorem binZ_ok {op : BinOp} {a b : V} {k : V → Bool} (h : (binZ op).f a b k = true) : ∃ v, V.bin op a b = some v ∧ k v = true := by
 unfold binZ at h
 cases hs : isShift op <;> rw [hs] at h
 ·replace h := asInt_or h
  rcases h with ⟨ka, m, rfl, h⟩ | h
  ·replace h := asInt_or h
   rcases h with ⟨kb, n, rfl, h⟩ | h
   rotate_left
   ·exact slowO_ok (cond_f h).2
   replace h := cond_f h
   obtain ⟨hk, h⟩ := h
   have := kindNo_inj hk
   subst this
   replace h := natI_or h
   rcases h with ⟨m, rfl, h⟩ | h
   ·replace h := natI_or h
    rcases h with ⟨n, rfl, h⟩ | h
    ·replace h := binN_ok h
     rcases h with ⟨v, h1, h2⟩ | h
     ·refine ⟨v, ?_, h2⟩
      rw [← h1]
      cases op <;> first | (cases hs; done) | simp [V.bin]
     ·exact slowO_ok h
    ·exact slowO_ok h
   ·exact slowO_ok h
  ·replace h := cond_or h
   rcases h with ⟨_, h⟩ | h
   ·exact slowO_ok h
   replace h := asStr_ok h
   obtain ⟨x, rfl, h⟩ := h
   replace h := asStr_ok h
   obtain ⟨y, rfl, h⟩ := h
   exact strO_ok h
 ·replace h := asInt_ok h
  obtain ⟨ka, m, rfl, h⟩ := h
  replace h := asInt_ok h
  obtain ⟨kb, n, rfl, h⟩ := h
  replace h := natI_or h
  rcases h with ⟨m, rfl, h⟩ | h
  ·replace h := natI_or h
   rcases h with ⟨n, rfl, h⟩ | h
   ·rcases shN_ok (kb := kb) h with h | h
    ·exact h
    ·exact slowO_ok h
   ·exact slowO_ok h
  ·exact slowO_ok h
noncomputable def cellsK (S : CSt) (i : Nat) (k : List V → Bool) : Bool := Option.rec (motive := fun _ => (List V → Bool) → Bool) (fun _ => false) (fun o k => AObj.rec (motive := fun _ => (List V → Bool) → Bool) (fun cs k => k cs) (fun _ => false) (fun _ _ _ => false) (fun _ _ _ _ _ => false) (fun _ _ => false) o k) (S.hp.get i) k
theorem cellsK_ok {S : CSt} {i : Nat} {k : List V → Bool} (h : cellsK S i k = true) : ∃ cs, S.hp.get i = some (.cells cs) ∧ S.st.cells i = some cs ∧ k cs = true := by
 unfold cellsK at h
 cases hg : S.hp.get i with
 | none => rw [hg] at h; cases h
 | some o =>
  rw [hg] at h
  cases o <;> try (cases h; done)
  rename_i cs
  refine ⟨cs, rfl, ?_, h⟩
  show (match S.hp.get i with | some (.cells cs) => some cs | _ => none) = _
  rw [hg]
noncomputable def fadZ (off : Nat) (x : V) (k : V → Bool) : Bool := asPtr x (fun i o => frc (Nat.add o off) fun r => k (.ptr (some (i, r)))) (fun cs => k (.eptr (drL off cs)))
theorem fadZ_ok {off : Nat} {x : V} {k : V → Bool} (h : fadZ off x k = true) : ∃ v, addrX off x = some v ∧ k v = true := by
 replace h := asPtr_ok h
 rcases h with ⟨i, o, rfl, h⟩ | ⟨cs, rfl, h⟩
 ·rw [frc_eq] at h; exact ⟨_, rfl, h⟩
 ·rw [drL_eq] at h; exact ⟨_, rfl, h⟩
structure LD where
 f : V → CSt → (V → Bool) → Bool
noncomputable def loadZ (agg : Bool) (sz : Nat) : LD := match agg with
 | false => ⟨fun a S k => asPtr a (fun i o => cellsK S i fun cs => nthL o cs k) (fun cs => nthL 0 cs k)⟩
 | true => ⟨fun a S k => asPtr a (fun i o => cellsK S i fun cs => tkK sz (drL o cs) fun l => k (.agg l)) (fun cs => tkK sz cs fun l => k (.agg l))⟩
theorem loadZ_ok {agg : Bool} {sz : Nat} {a : V} {S : CSt} {k : V → Bool} (h : (loadZ agg sz).f a S k = true) : ∃ v, loadX agg sz a S = some v ∧ k v = true := by
 have tk : ∀ (cs : List V), tkK sz cs (fun l => k (.agg l)) = true → ∃ v, takeC true sz cs = some v ∧ k v = true := fun cs h => by
  replace h := tkK_ok h
  obtain ⟨h1, h2⟩ := h
  refine ⟨_, ?_, h2⟩
  simp only [takeC, if_true, if_pos h1]
 cases agg <;> simp only [loadZ] at h
 ·replace h := asPtr_ok h
  rcases h with ⟨i, o, rfl, h⟩ | ⟨cs, rfl, h⟩
  ·replace h := cellsK_ok h
   obtain ⟨cs, _, hc, h⟩ := h
   replace h := nthL_ok h
   obtain ⟨v, _, h1, h2⟩ := h
   refine ⟨v, ?_, h2⟩
   show (match cellsX S i with | some cs => takeC false sz (cs.drop o) | none => none) = _
   rw [cellsX_eq, hc]; exact h1
  ·replace h := nthL_ok h
   obtain ⟨v, _, h1, h2⟩ := h
   exact ⟨v, h1, h2⟩
 ·replace h := asPtr_ok h
  rcases h with ⟨i, o, rfl, h⟩ | ⟨cs, rfl, h⟩
  ·replace h := cellsK_ok h
   obtain ⟨cs, _, hc, h⟩ := h
   rw [drL_eq] at h
   obtain ⟨v, h1, h2⟩ := tk _ h
   refine ⟨v, ?_, h2⟩
   show (match cellsX S i with | some cs => takeC true sz (cs.drop o) | none => none) = _
   rw [cellsX_eq, hc]; exact h1
  ·exact tk _ h
noncomputable def notNil (t : Tok) : Bool := Tok.rec (motive := fun _ => Bool) false true true (fun _ => true) t
theorem notNil_ok {t : Tok} (h : notNil t = true) : t ≠ .nil := by rintro rfl; cases h
noncomputable def iadZ (sz : Nat) (x i : V) (k : V → Bool) : Bool := asInt i (fun _ j => natI j (fun j => asSl x (fun cs n sz' t => cnd (Nat.blt j n) (cnd (Nat.beq sz' sz) (cnd (notNil t) (k (.eptr (drL (Nat.mul j sz) cs))) false) false) false) (fun o off n sz' => cnd (Nat.blt j n) (cnd (Nat.beq sz' sz) (frc (Nat.add off (Nat.mul j sz)) fun r => k (.ptr (some (o, r)))) false) false)) false) false
theorem iadZ_ok {sz : Nat} {x i : V} {k : V → Bool} (h : iadZ sz x i k = true) : ∃ v, (match x, i.idx with
  | .sl cs n sz' t, some j => if j < n ∧ sz' = sz ∧ t ≠ .nil then some (V.eptr (cs.drop (j * sz))) else none
  | .msl o off n sz', some j => if j < n ∧ sz' = sz then some (V.ptr (some (o, off + j * sz))) else none
  | _, _ => none) = some v ∧ k v = true := by
 replace h := asInt_ok h
 obtain ⟨kd, j, rfl, h⟩ := h
 replace h := natI_or h
 rcases h with ⟨j, rfl, h⟩ | h
 ·have e : (V.int kd (j : Int)).idx = some j := by simp [V.idx]
  replace h := asSl_ok h
  rcases h with ⟨cs, n, sz', t, rfl, h⟩ | ⟨o, off, n, sz', rfl, h⟩
  ·replace h := cond_f h
   obtain ⟨h1, h⟩ := h
   replace h := cond_f h
   obtain ⟨h2, h⟩ := h
   replace h := cond_f h
   obtain ⟨h3, h⟩ := h
   rw [drL_eq] at h
   refine ⟨_, ?_, h⟩
   simp only [e]
   rw [if_pos ⟨blt_n h1, beq_n h2, notNil_ok h3⟩]; rfl
  ·replace h := cond_f h
   obtain ⟨h1, h⟩ := h
   replace h := cond_f h
   obtain ⟨h2, h⟩ := h
   rw [frc_eq] at h
   refine ⟨_, ?_, h⟩
   simp only [e]
   rw [if_pos ⟨blt_n h1, beq_n h2⟩]; rfl
 ·cases h
structure FD where
 f : V → (V → Bool) → Bool
noncomputable def fldZ (agg : Bool) (off sz : Nat) : FD := match agg with
 | false => ⟨fun x k => asAgg x fun cs => nthL off cs k⟩
 | true => ⟨fun x k => asAgg x fun cs => tkK sz (drL off cs) fun l => k (.agg l)⟩
theorem fldZ_ok {agg : Bool} {off sz : Nat} {x : V} {k : V → Bool} (h : (fldZ agg off sz).f x k = true) : ∃ v, (match x with
  | .agg cs => takeC agg sz (cs.drop off)
  | _ => none) = some v ∧ k v = true := by
 cases agg
 ·replace h := asAgg_ok h
  obtain ⟨cs, rfl, h⟩ := h
  replace h := nthL_ok h
  obtain ⟨v, _, h1, h2⟩ := h
  exact ⟨v, h1, h2⟩
 ·replace h := asAgg_ok h
  obtain ⟨cs, rfl, h⟩ := h
  replace h := tkK_ok h
  obtain ⟨h1, h2⟩ := h
  rw [drL_eq] at h1 h2
  refine ⟨_, ?_, h2⟩
  simp only [takeC, if_true, if_pos h1]
noncomputable def lenZ (lk : LK) : LD := match lk with
 | .str => ⟨fun x _ k => asStr x fun s => frc (lenL (strL s)) fun n => k (.int .i64 (.ofNat n))⟩
 | .sl => ⟨fun x _ k => asSl x (fun _ n _ _ => k (.int .i64 (.ofNat n))) (fun _ _ n _ => k (.int .i64 (.ofNat n)))⟩
 | .map => ⟨fun x S k => slowO (aF (.len .map (.c x)) fr00 S.st) k⟩
theorem lenZ_ok {lk : LK} {x : V} {S : CSt} {k : V → Bool} (h : (lenZ lk).f x S k = true) : ∃ v, aF (.len lk (.c x)) fr00 S.st = some v ∧ k v = true := by
 cases lk
 ·replace h := asStr_ok h
  obtain ⟨s, rfl, h⟩ := h
  rw [frc_eq, lenL_eq] at h
  exact ⟨_, rfl, h⟩
 ·replace h := asSl_ok h
  rcases h with ⟨cs, n, sz', t, rfl, h⟩ | ⟨o, off, n, sz', rfl, h⟩ <;> exact ⟨_, rfl, h⟩
 ·exact slowO_ok h
noncomputable def unZ (op : UnOp) : FD := match op with
 | .not => ⟨fun x k => asBool x fun b => Bool.rec (motive := fun _ => Bool) (k (.bool true)) (k (.bool false)) b⟩
 | op => ⟨fun x k => slowO (V.un op x) k⟩
theorem unZ_ok {op : UnOp} {x : V} {k : V → Bool} (h : (unZ op).f x k = true) : ∃ v, V.un op x = some v ∧ k v = true := by
 cases op <;> try exact slowO_ok h
 replace h := asBool_ok h
 obtain ⟨b, rfl, h⟩ := h
 cases b <;> exact ⟨_, rfl, h⟩
noncomputable def cnvZ (c : Cv) : LD := match c with
 | .int kd => ⟨fun x S k => asInt x (fun _ n => natI n (fun m => finZ kd m k (slowO (V.conv S.st (.int kd) x) k)) (slowO (V.conv S.st (.int kd) x) k)) (slowO (V.conv S.st (.int kd) x) k)⟩
 | c => ⟨fun x S k => slowO (V.conv S.st c x) k⟩
theorem cnvZ_ok {c : Cv} {x : V} {S : CSt} {k : V → Bool} (h : (cnvZ c).f x S k = true) : ∃ v, V.conv S.st c x = some v ∧ k v = true := by
 cases c <;> try exact slowO_ok h
 replace h := asInt_or h
 rcases h with ⟨ka, n, rfl, h⟩ | h
 ·replace h := natI_or h
  rcases h with ⟨m, rfl, h⟩ | h
  ·replace h := finZ_ok h
   rcases h with h | h
   ·exact ⟨_, rfl, h⟩
   ·exact slowO_ok h
  ·exact slowO_ok h
 ·exact slowO_ok h
noncomputable def idxA (x : V) (k : Nat → Bool) : Bool := V.rec (motive_1 := fun _ => Bool) (motive_2 := fun _ => Bool)
 (fun _ => false) (fun _ n => natI n k false) (fun _ => false) (fun _ => false) (fun _ _ => false) (fun _ _ _ _ _ => false) (fun _ _ _ _ => false) (fun _ => false) (fun _ => false) (fun _ _ _ _ _ => false) false (fun _ _ _ => false) false (fun _ _ => false) (fun _ _ => false) (fun _ => false) false false (fun _ _ _ _ => false) x
theorem idxA_ok {x : V} {k : Nat → Bool} (h : idxA x k = true) : ∃ n, x.idx = some n ∧ k n = true := by
 cases x <;> try (cases h; done)
 rename_i kd n
 rcases natI_or (show natI n k false = true from h) with ⟨m, rfl, h⟩ | h
 ·exact ⟨m, by simp [V.idx], h⟩
 ·cases h
structure OX where
 f : F8 → Nat → (Nat → Bool) → Bool
noncomputable def bndH (o : Option Arg) (z : Nat → Nat) : OX := match o with
 | none => ⟨fun _ n k => k (z n)⟩
 | some a => ⟨fun fr _ k => idxA ((zA a).f fr) k⟩
theorem bndH_ok {o : Option Arg} {z : Nat → Nat} {fr : F8} {n : Nat} {k : Nat → Bool} (h : (bndH o z).f fr n k = true) : ∃ m, (match o with | some a => (a.ev fr.den).idx | none => some (z n)) = some m ∧ k m = true := by
 cases o with
 | none => exact ⟨_, rfl, h⟩
 | some a =>
  have h : idxA ((zA a).f fr) k = true := h
  rw [zA_eq] at h
  exact idxA_ok h
structure SX where
 f : F8 → V → CSt → (V → Bool) → Bool
noncomputable def slcZ (sz : Nat) (lo hi mx : Option Arg) : SX := match mx with
 | none => ⟨fun fr x S k => asSl x (fun cs n sz' t => (bndH hi (fun n => n)).f fr n fun h => (bndH lo (fun _ => 0)).f fr n fun l => cnd (Nat.ble l h) (cnd (Nat.ble h n) (cnd (notNil t) (cnd (Nat.beq sz' sz) (frc (Nat.sub h l) fun m => k (.sl (tkL (Nat.mul m sz) (drL (Nat.mul l sz) cs)) m sz (cond (Nat.beq h n) t .no))) false) (k x)) false) false) (fun _ _ _ _ => slowO (sliceV fr.den sz lo hi none x) k)⟩
 | some a => ⟨fun fr x S k => slowO (sliceV fr.den sz lo hi (some a) x) k⟩
theorem slcZ_ok {sz : Nat} {lo hi mx : Option Arg} {fr : F8} {x : V} {S : CSt} {k : V → Bool} (h : (slcZ sz lo hi mx).f fr x S k = true) : ∃ v, sliceV fr.den sz lo hi mx x = some v ∧ k v = true := by
 cases mx with
 | some a => exact slowO_ok h
 | none =>
  replace h := asSl_ok h
  rcases h with ⟨cs, n, sz', t, rfl, h⟩ | ⟨_, _, _, _, rfl, h⟩
  ·replace h := bndH_ok h
   obtain ⟨hh, e1, h⟩ := h
   replace h := bndH_ok h
   obtain ⟨l, e2, h⟩ := h
   replace h := cond_f h
   obtain ⟨h1, h⟩ := h
   replace h := cond_f h
   obtain ⟨h2, h⟩ := h
   have hb : bounds fr.den n lo hi = some (l, hh) := by
    have key : (if l ≤ hh ∧ hh ≤ n then some (l, hh) else none) = some (l, hh) := if_pos ⟨ble_n h1, ble_n h2⟩
    cases lo <;> cases hi <;> simp only [bounds] at e1 e2 ⊢ <;> (try injection e1 with e1) <;> (try injection e2 with e2) <;> (try subst e1) <;> (try subst e2) <;> (try rw [e1]) <;> (try rw [e2]) <;> exact key
   simp only [sliceV, hb, Option.bind_some]
   replace h := cond_cases h
   rcases h with ⟨h3, h⟩ | ⟨h3, h⟩
   ·replace h := cond_f h
    obtain ⟨h4, h⟩ := h
    have h4 := beq_n h4
    subst h4
    rw [frc_eq, tkL_eq, drL_eq] at h
    rw [if_neg (notNil_ok h3)]
    simp only [ne_eq, not_true_eq_false, if_false]
    refine ⟨_, rfl, ?_⟩
    have e : (if hh = n then t else Tok.no) = cond (Nat.beq hh n) t .no := by
     rw [nbeq_iff]
     by_cases q : hh = n <;> simp [q]
    rw [e]; exact h
   ·have : t = .nil := by cases t <;> first | rfl | cases h3
    subst this
    exact ⟨_, rfl, h⟩
  ·exact slowO_ok h
noncomputable def partZ (off sz : Nat) (x : V) (zero : List V) (k : List V → Bool) : Bool := cellsZ x (fun cs => cnd (Nat.beq (lenL cs) sz) (cnd (allOne cs) (splL off cs zero k) false) false) (cnd (Nat.beq sz 1) (splL off [x] zero k) false)
theorem partZ_ok {off sz : Nat} {x : V} {zero : List V} {k : List V → Bool} (h : partZ off sz x zero k = true) : x.cells.length = sz ∧ off + sz ≤ zero.length ∧ x.cells.all V.one = true ∧ k (splice zero off x.cells) = true := by
 replace h := cellsZ_ok h
 rcases h with ⟨cs, rfl, h⟩ | ⟨e, ho, h⟩
 ·replace h := cond_f h
  obtain ⟨h1, h⟩ := h
  replace h := cond_f h
  obtain ⟨h2, h⟩ := h
  rw [lenL_eq] at h1
  rw [allOne_eq] at h2
  have h1 := beq_n h1
  replace h := splL_ok h
  obtain ⟨h3, h4⟩ := h
  exact ⟨h1, by rw [← h1]; exact h3, h2, h4⟩
 ·replace h := cond_f h
  obtain ⟨h1, h⟩ := h
  have h1 := beq_n h1
  replace h := splL_ok h
  obtain ⟨h3, h4⟩ := h
  rw [e]
  exact ⟨h1.symm, by rw [h1]; exact h3, by simp [ho], h4⟩
structure BD where
 f : F8 → List V → (List V → Bool) → Bool
noncomputable def bldZ (parts : List (Nat × Nat × Arg)) (fr : F8) (zero : List V) (k : List V → Bool) : Bool :=
 (List.rec (motive := fun _ => BD) ⟨fun _ zero k => k zero⟩ (fun p _ ih => ⟨fun fr zero k => partZ p.1 p.2.1 ((zA p.2.2).f fr) zero fun z => ih.f fr z k⟩) parts : BD).f fr zero k
theorem bldZ_ok {fr : F8} : ∀ {parts : List (Nat × Nat × Arg)} {zero : List V} {k : List V → Bool}, bldZ parts fr zero k = true → ∃ l, fillV fr.den zero parts = some l ∧ k l = true
 | [], zero, k, h => ⟨_, rfl, h⟩
 | (off, sz, x) :: r, zero, k, h => by
  have h' : partZ off sz ((zA x).f fr) zero (fun z => bldZ r fr z k) = true := h
  rw [zA_eq] at h'
  obtain ⟨h1, h2, h3, h4⟩ := partZ_ok h'
  obtain ⟨l, h5, h6⟩ := bldZ_ok h4
  refine ⟨l, ?_, h6⟩
  unfold fillV
  rw [if_pos ⟨h1, h2, h3⟩]
  exact h5
structure EQ where
 f : V → V → (V → Bool) → Bool
noncomputable def resB (neg b : Bool) (k : V → Bool) : Bool := Bool.rec (motive := fun _ => Bool) (Bool.rec (motive := fun _ => Bool) (k (.bool false)) (k (.bool true)) neg) (Bool.rec (motive := fun _ => Bool) (k (.bool true)) (k (.bool false)) neg) b
theorem resB_ok {neg b : Bool} {k : V → Bool} (h : resB neg b k = true) : k (.bool (cond neg (!b) b)) = true := by cases neg <;> cases b <;> exact h
noncomputable def asPtrO (v : V) (k : Option (Nat × Nat) → Bool) (d : Bool) : Bool := V.rec (motive_1 := fun _ => (Option (Nat × Nat) → Bool) → Bool → Bool) (motive_2 := fun _ => (Option (Nat × Nat) → Bool) → Bool → Bool)
 (fun _ _ _ => false) (fun _ _ _ _ => false) (fun _ _ _ => false) (fun p k _ => k p) (fun _ _ _ d => d) (fun _ _ _ _ _ _ _ => false) (fun _ _ _ _ _ _ => false) (fun _ _ _ => false) (fun _ _ _ => false) (fun _ _ _ _ _ _ _ => false) (fun _ _ => false) (fun _ _ _ _ _ => false) (fun _ _ => false) (fun _ _ _ _ => false) (fun _ _ _ _ => false) (fun _ _ _ => false) (fun _ _ => false) (fun _ _ => false) (fun _ _ _ _ _ _ => false) v k d
theorem asPtrO_ok {v : V} {k : Option (Nat × Nat) → Bool} {d : Bool} (h : asPtrO v k d = true) : (∃ p, v = .ptr p ∧ k p = true) ∨ d = true := by
 cases v <;> first | exact .inl ⟨_, rfl, h⟩ | exact .inr h | cases h
noncomputable def eqS (neg : Bool) (kd : TK) (a b : V) (k : V → Bool) : Bool := slowO (eqvX neg kd a b) k
noncomputable def eqZ (neg : Bool) (kd : TK) : EQ := match kd with
 | .ptr => ⟨fun a b k => asPtrO a (fun p => asPtrO b (fun q => Option.rec (motive := fun _ => Bool) (Option.rec (motive := fun _ => Bool) (resB neg true k) (fun _ => resB neg false k) q) (fun _ => Option.rec (motive := fun _ => Bool) (resB neg false k) (fun _ => eqS neg .ptr a b k) q) p) (eqS neg .ptr a b k)) (eqS neg .ptr a b k)⟩
 | kd => ⟨fun a b k => eqS neg kd a b k⟩
theorem eqZ_ok {neg : Bool} {kd : TK} {a b : V} {k : V → Bool} (h : (eqZ neg kd).f a b k = true) : ∃ v, eqvX neg kd a b = some v ∧ k v = true := by
 cases kd <;> try exact slowO_ok h
 simp only [eqZ] at h
 replace h := asPtrO_ok h
 rcases h with ⟨p, e, h⟩ | h
 ·replace h := asPtrO_ok h
  rcases h with ⟨q, e2, h⟩ | h
  ·subst e; subst e2
   cases p <;> cases q <;> first | exact ⟨_, rfl, resB_ok h⟩ | exact slowO_ok h
  ·exact slowO_ok h
 ·exact slowO_ok h
noncomputable def ixsZ (x i : V) (k : V → Bool) : Bool := asStr x fun s => idxA i fun j => nthL j (strL s) fun b => frc b.toNat fun n => k (.int .u8 (.ofNat n))
theorem ixsZ_ok {x i : V} {k : V → Bool} {S : St} (h : ixsZ x i k = true) : ∃ v, aF (.indexS (.c x) (.c i)) fr00 S = some v ∧ k v = true := by
 replace h := asStr_ok h
 obtain ⟨s, rfl, h⟩ := h
 replace h := idxA_ok h
 obtain ⟨j, e, h⟩ := h
 replace h := nthL_ok h
 obtain ⟨b, h1, _, h⟩ := h
 rw [frc_eq] at h
 refine ⟨_, ?_, h⟩
 have e2 : s[j]? = some b := by
  have := mkS_get (strL s) j
  rw [mkS_strL] at this
  rw [this]; exact h1
 simp only [aF, Arg.ev, e, e2]; rfl
abbrev QZ := F8 → CSt → (V → Bool) → Bool
structure QF where
 f : QZ
noncomputable def zF (i : FI) : QF := match i with
 | .mv x => ⟨fun fr _ k => k ((zA x).f fr)⟩
 | .pick c a b => ⟨fun fr _ k => asBool ((zA c).f fr) fun q => Bool.rec (motive := fun _ => Bool) (k ((zA b).f fr)) (k ((zA a).f fr)) q⟩
 | .nilCheck x => ⟨fun fr _ k => asPtr ((zA x).f fr) (fun _ _ => k ((zA x).f fr)) (fun _ => k ((zA x).f fr))⟩
 | .bin op x y => ⟨fun fr _ k => (binZ op).f ((zA x).f fr) ((zA y).f fr) k⟩
 | .fieldAddr off x => ⟨fun fr _ k => fadZ off ((zA x).f fr) k⟩
 | .load agg sz a => ⟨fun fr S k => (loadZ agg sz).f ((zA a).f fr) S k⟩
 | .extract x i => ⟨fun fr _ k => asTup ((zA x).f fr) fun vs => nthL i vs k⟩
 | .len lk x => ⟨fun fr S k => (lenZ lk).f ((zA x).f fr) S k⟩
 | .indexAddr sz x i => ⟨fun fr _ k => iadZ sz ((zA x).f fr) ((zA i).f fr) k⟩
 | .field agg off sz x => ⟨fun fr _ k => (fldZ agg off sz).f ((zA x).f fr) k⟩
 | .eq neg kd x y => ⟨fun fr _ k => (eqZ neg kd).f ((zA x).f fr) ((zA y).f fr) k⟩
 | .un op x => ⟨fun fr _ k => (unZ op).f ((zA x).f fr) k⟩
 | .conv c x => ⟨fun fr S k => (cnvZ c).f ((zA x).f fr) S k⟩
 | .slice sz x lo hi mx => ⟨fun fr S k => (slcZ sz lo hi mx).f fr ((zA x).f fr) S k⟩
 | .lookup kk ok zero m kx => ⟨fun fr S k => slowO (aF (.lookup kk ok zero (.c ((zA m).f fr)) (.c ((zA kx).f fr))) fr00 S.st) k⟩
 | .eqA neg ks x y => ⟨fun fr S k => slowO (aF (.eqA neg ks (.c ((zA x).f fr)) (.c ((zA y).f fr))) fr00 S.st) k⟩
 | .indexS x i => ⟨fun fr _ k => ixsZ ((zA x).f fr) ((zA i).f fr) k⟩
 | .build zero parts => ⟨fun fr S k => bldZ parts fr zero fun l => k (.agg l)⟩
 | .mkIface t x => ⟨fun fr _ k => k (.iface t ((zA x).f fr))⟩
 | .indexAddrA len sz x i => ⟨fun fr S k => slowO (aF (.indexAddrA len sz (.c ((zA x).f fr)) (.c ((zA i).f fr))) fr00 S.st) k⟩
 | .assertT t ok zero x => ⟨fun fr S k => slowO (aF (.assertT t ok zero (.c ((zA x).f fr))) fr00 S.st) k⟩
 | i => ⟨fun fr S k => slowO (aF i fr.den S.st) k⟩
theorem zF_ok {i : FI} {fr : F8} {S : CSt} {k : V → Bool} (h : (zF i).f fr S k = true) : ∃ v, aF i fr.den S.st = some v ∧ k v = true := by
 cases i <;> simp only [zF, zA_eq] at h <;> try exact slowO_ok h
 case mv x => exact ⟨_, rfl, h⟩
 case pick c a b =>
  replace h := asBool_ok h
  obtain ⟨q, e, h⟩ := h
  cases q <;> exact ⟨_, by simp only [aF, e], h⟩
 case nilCheck x =>
  replace h := asPtr_ok h
  rcases h with ⟨i, o, e, h⟩ | ⟨cs, e, h⟩
  ·rw [e] at h; exact ⟨_, by simp only [aF, e], h⟩
  ·rw [e] at h; exact ⟨_, by simp only [aF, e], h⟩
 case bin op x y => exact binZ_ok h
 case fieldAddr off x => exact fadZ_ok h
 case load agg sz a =>
  obtain ⟨v, h1, h2⟩ := loadZ_ok h
  refine ⟨v, ?_, h2⟩
  rw [← h1]
  simp only [aF]
  generalize a.ev fr.den = w
  cases w <;> try rfl
  rename_i p
  cases p with
  | none => rfl
  | some q =>
   show (S.st.cells q.1).bind (fun cs => takeC agg sz (cs.drop q.2)) = (match cellsX S q.1 with | some cs => takeC agg sz (cs.drop q.2) | none => none)
   rw [cellsX_eq]
   cases S.st.cells q.1 <;> rfl
 case extract x i =>
  replace h := asTup_ok h
  obtain ⟨vs, e, h⟩ := h
  replace h := nthL_ok h
  obtain ⟨v, h1, _, h2⟩ := h
  exact ⟨v, by simp only [aF, e]; exact h1, h2⟩
 case len lk x =>
  obtain ⟨v, h1, h2⟩ := lenZ_ok h
  refine ⟨v, ?_, h2⟩
  rw [← h1]
  cases lk <;> rfl
 case indexAddr sz x i => exact iadZ_ok h
 case field agg off sz x => exact fldZ_ok h
 case eq neg kd x y =>
  have := eqZ_ok h
  rw [eqvX_eq (S := S)] at this
  exact this
 case indexS x i => exact ixsZ_ok (S := S.st) h
 case un op x => exact unZ_ok h
 case conv c x => exact cnvZ_ok h
 case slice sz x lo hi mx => exact slcZ_ok h
 case build zero parts =>
  obtain ⟨l, h1, h2⟩ := bldZ_ok h
  exact ⟨_, by simp only [aF, h1]; rfl, h2⟩
noncomputable def asSlD (v : V) (k : List V → Nat → Nat → Tok → Bool) (d : Bool) : Bool := V.rec (motive_1 := fun _ => (List V → Nat → Nat → Tok → Bool) → Bool → Bool) (motive_2 := fun _ => (List V → Nat → Nat → Tok → Bool) → Bool → Bool)
 (fun _ _ _ => false) (fun _ _ _ _ => false) (fun _ _ d => d) (fun _ _ _ => false) (fun _ _ _ _ => false) (fun cs n sz t _ k _ => k cs n sz t) (fun _ _ _ _ _ d => d) (fun _ _ _ => false) (fun _ _ _ => false) (fun _ _ _ _ _ _ _ => false) (fun _ _ => false) (fun _ _ _ _ _ => false) (fun _ _ => false) (fun _ _ _ _ => false) (fun _ _ _ _ => false) (fun _ _ _ => false) (fun _ _ => false) (fun _ _ => false) (fun _ _ _ _ _ _ => false) v k d
theorem asSlD_ok {v : V} {k : List V → Nat → Nat → Tok → Bool} {d : Bool} (h : asSlD v k d = true) : (∃ cs n sz t, v = .sl cs n sz t ∧ k cs n sz t = true) ∨ d = true := by
 cases v <;> first | exact .inl ⟨_, _, _, _, rfl, h⟩ | exact .inr h | cases h
structure BS where
 f : List V → CSt → KX → Bool
noncomputable def sealP (r : Option (V × CSt)) (k : KX) : Bool := pairX r fun v S => sealZ v fun v => k v S
theorem pairX_ok {r : Option (V × CSt)} {k : KX} (h : pairX r k = true) : ∃ v S', r = some (v, S') ∧ k v S' = true := by
 cases r with
 | none => cases h
 | some q => obtain ⟨v, S'⟩ := q; exact ⟨v, S', rfl, h⟩
theorem sealP_ok {r : Option (V × CSt)} {k : KX} (h : sealP r k = true) : ∃ v S', r = some (v, S') ∧ k v S' = true := by
 obtain ⟨v, S', h1, h2⟩ := pairX_ok h
 rw [sealZ_eq] at h2
 exact ⟨v, S', h1, h2⟩
noncomputable def setK (S : CSt) (i : Nat) (sz off : Nat) (x : V) (cs : List V) (k : KX) : Bool := cellsZ x (fun xs => cnd (Nat.beq (lenL xs) sz) (cnd (allOne xs) (splL off xs cs fun new => k (.tup []) ⟨S.hp.put (some (.cells new)) i, S.n⟩) false) false) (cnd (Nat.beq sz 1) (splL off [x] cs fun new => k (.tup []) ⟨S.hp.put (some (.cells new)) i, S.n⟩) false)
noncomputable def stoZ (sz : Nat) (a x : V) (S : CSt) (k : KX) : Bool := asPtr a (fun i off => cellsK S i fun cs => cnd (small i) (setK S i sz off x cs k) false) (fun _ => false)
theorem stoZ_ok {sz : Nat} {a x : Arg} {fr : Fr} {S : CSt} {k : KX} (h : stoZ sz (a.ev fr) (x.ev fr) S k = true) : ∃ v S', xE (.store sz a x) fr S = some (v, S') ∧ k v S' = true := by
 replace h := asPtr_ok h
 rcases h with ⟨i, off, e, h⟩ | ⟨cs, e, h⟩
 ·replace h := cellsK_ok h
  obtain ⟨cs, _, hc, h⟩ := h
  replace h := cond_f h
  obtain ⟨hs, h⟩ := h
  refine ⟨.tup [], S.set i (.cells (splice cs off (x.ev fr).cells)), ?_⟩
  simp only [xE, e, hc]
  replace h := cellsZ_ok h
  rcases h with ⟨xs, ex, h⟩ | ⟨ex, ho, h⟩
  ·replace h := cond_f h
   obtain ⟨h1, h⟩ := h
   replace h := cond_f h
   obtain ⟨h2, h⟩ := h
   rw [lenL_eq] at h1
   rw [allOne_eq] at h2
   have h1 := beq_n h1
   replace h := splL_ok h
   obtain ⟨h3, h4⟩ := h
   rw [ex]
   refine ⟨?_, h4⟩
   show (if xs.length = sz ∧ off + sz ≤ cs.length then cond (xs.all V.one) _ none else none) = _
   rw [if_pos ⟨h1, by omega⟩, h2]
   simp only [setX, hs, cond_true]
  ·replace h := cond_f h
   obtain ⟨h1, h⟩ := h
   have h1 := beq_n h1
   replace h := splL_ok h
   obtain ⟨h3, h4⟩ := h
   rw [ex]
   refine ⟨?_, h4⟩
   simp only [List.length_singleton] at h3
   rw [if_pos ⟨by simp [h1], by omega⟩]
   simp only [List.all_cons, List.all_nil, ho, Bool.and_true, setX, hs, cond_true]
 ·cases h
noncomputable def addZ (S : CSt) (v : Nat → V) (x : AObj) (k : KX) : Bool := frc S.n fun a => cnd (small a) (k (v a) ⟨S.hp.put (some x) a, Nat.succ a⟩) false
theorem addZ_ok {S : CSt} {v : Nat → V} {x : AObj} {k : KX} (h : addZ S v x k = true) : ∃ w S', addX S (v S.n) x = some (w, S') ∧ k w S' = true := by
 unfold addZ at h
 rw [frc_eq] at h
 replace h := cond_f h
 obtain ⟨h1, h2⟩ := h
 exact ⟨_, _, by simp only [addX, h1, cond_true]; rfl, h2⟩
noncomputable def grwZ (S : CSt) (mu : Bool) (cs : List V) (n sz : Nat) (k : KX) : Bool := frc n fun n => Bool.rec (motive := fun _ => Bool) (addZ S (fun a => .sl cs n sz (.at a)) .tok k) (addZ S (fun a => .msl a 0 n sz) (.cells cs) k) mu
theorem grwZ_ok {S : CSt} {mu : Bool} {cs : List V} {n sz : Nat} {k : KX} (h : grwZ S mu cs n sz k = true) : ∃ w S', grownX S mu cs n sz = some (w, S') ∧ k w S' = true := by
 unfold grwZ at h
 rw [frc_eq] at h
 cases mu
 ·exact addZ_ok h
 ·exact addZ_ok h
noncomputable def isTok (S : CSt) (i : Nat) (b : Bool) : Bool := Option.rec (motive := fun _ => Bool) false (fun o => AObj.rec (motive := fun _ => Bool) (fun _ => false) b (fun _ _ => false) (fun _ _ _ _ => false) (fun _ => false) o) (S.hp.get i)
theorem isTok_ok {S : CSt} {i : Nat} {b : Bool} (h : isTok S i b = true) : S.hp.get i = some .tok ∧ b = true := by
 unfold isTok at h
 cases hg : S.hp.get i with
 | none => rw [hg] at h; cases h
 | some o =>
  rw [hg] at h
  cases o <;> first | (cases h; done) | exact ⟨rfl, h⟩
noncomputable def apsZ (sz bytes : Nat) (mu : Bool) (s : V) (S : CSt) (m : Nat) (xs : List V) (k : KX) : Bool := asSl s
 (fun cs n sz' t => cnd (Nat.ble (Nat.mul (Nat.add n m) bytes) 140737488355328) (cnd (Nat.beq (lenL xs) (Nat.mul m sz)) (Tok.rec (motive := fun _ => Bool)
  (cnd (Nat.beq m 0) (k (.sl cs n sz' .nil) S) (grwZ S mu (apL cs xs) (Nat.add n m) sz k))
  (cnd (Nat.beq sz' sz) (cnd (Nat.beq m 0) (k (.sl cs n sz' .cap) S) (grwZ S mu (apL cs xs) (Nat.add n m) sz k)) false)
  (cnd (Nat.beq sz' sz) (cnd (Nat.beq m 0) (k (.sl cs n sz' .no) S) false) false)
  (fun a => cnd (Nat.beq sz' sz) (cnd mu false (isTok S a (cnd (small a) (grwZ ⟨S.hp.put none a, S.n⟩ false (apL cs xs) (Nat.add n m) sz k) false))) false) t) false) false)
 (fun _ _ _ _ => sealP (appendX S sz bytes mu m xs s) k)
theorem apsZ_ok {sz bytes : Nat} {mu : Bool} {s : V} {S : CSt} {m : Nat} {xs : List V} {k : KX} (h : apsZ sz bytes mu s S m xs k = true) : ∃ w S', appendX S sz bytes mu m xs s = some (w, S') ∧ k w S' = true := by
 replace h := asSl_ok h
 rcases h with ⟨cs, n, sz', t, rfl, h⟩ | ⟨_, _, _, _, rfl, h⟩
 ·replace h := cond_f h
  obtain ⟨h1, h⟩ := h
  replace h := cond_f h
  obtain ⟨h2, h⟩ := h
  rw [lenL_eq] at h2
  have h2 : xs.length = m * sz := beq_n h2
  have h1 : roomOk (n + m) bytes = true := decide_eq_true (ble_n h1)
  simp only [appendX]
  cases t with
  | nil =>
   rw [if_neg (by rintro (⟨a, _⟩ | b | c); exact a rfl; exact b h2; rw [h1] at c; cases c)]
   replace h := cond_cases h
   rcases h with ⟨h3, h⟩ | ⟨h3, h⟩
   ·exact ⟨_, _, if_pos (beq_n h3), h⟩
   ·have h3 : ¬ m = 0 := fun e => by rw [e] at h3; cases h3
    rw [apL_eq] at h
    simp only [if_neg h3]
    exact grwZ_ok h
  | cap =>
   replace h := cond_f h
   obtain ⟨h4, h⟩ := h
   rw [if_neg (by rintro (⟨_, a⟩ | b | c); exact a (beq_n h4); exact b h2; rw [h1] at c; cases c)]
   replace h := cond_cases h
   rcases h with ⟨h3, h⟩ | ⟨h3, h⟩
   ·exact ⟨_, _, if_pos (beq_n h3), h⟩
   ·have h3 : ¬ m = 0 := fun e => by rw [e] at h3; cases h3
    rw [apL_eq] at h
    simp only [if_neg h3]
    exact grwZ_ok h
  | no =>
   replace h := cond_f h
   obtain ⟨h4, h⟩ := h
   rw [if_neg (by rintro (⟨_, a⟩ | b | c); exact a (beq_n h4); exact b h2; rw [h1] at c; cases c)]
   replace h := cond_f h
   obtain ⟨h3, h⟩ := h
   exact ⟨_, _, if_pos (beq_n h3), h⟩
  | «at» a =>
   replace h := cond_f h
   obtain ⟨h4, h⟩ := h
   rw [if_neg (by rintro (⟨_, a⟩ | b | c); exact a (beq_n h4); exact b h2; rw [h1] at c; cases c)]
   have h : cnd mu false (isTok S a (cnd (small a) (grwZ ⟨S.hp.put none a, S.n⟩ false (apL cs xs) (Nat.add n m) sz k) false)) = true := h
   cases mu
   ·obtain ⟨h5, h⟩ := isTok_ok (show isTok S a _ = true from h)
    replace h := cond_f h
    obtain ⟨h6, h⟩ := h
    simp only [h5, h6, cond_true, Bool.false_eq_true, if_false]
    rw [apL_eq] at h
    exact grwZ_ok h
   ·cases h
 ·exact sealP_ok h
noncomputable def appZ (sz bytes : Nat) (mu : Bool) (s x : V) (S : CSt) (k : KX) : Bool := asSlD x
 (fun cs n sz' t => cnd (notNil t) (cnd (Nat.beq sz' sz) (apsZ sz bytes mu s S n cs k) false) (apsZ sz bytes mu s S 0 [] k))
 (Option.rec (motive := fun _ => Bool) false (fun q => Prod.rec (motive := fun _ => Bool) (fun m xs => frc m fun m => apsZ sz bytes mu s S m xs k) q) (x.elems S.st sz))
theorem appZ_ok {sz bytes : Nat} {mu : Bool} {s x : Arg} {fr : Fr} {S : CSt} {k : KX} (h : appZ sz bytes mu (s.ev fr) (x.ev fr) S k = true) : ∃ w S', xE (.append sz bytes mu s x) fr S = some (w, S') ∧ k w S' = true := by
 simp only [xE]
 generalize x.ev fr = xv at h ⊢
 replace h := asSlD_ok h
 rcases h with ⟨cs, n, sz', t, rfl, h⟩ | h
 ·simp only [V.elems]
  replace h := cond_cases h
  rcases h with ⟨h1, h⟩ | ⟨h1, h⟩
  ·replace h := cond_f h
   obtain ⟨h2, h⟩ := h
   rw [if_neg (notNil_ok h1), if_pos (beq_n h2)]
   exact apsZ_ok h
  ·have : t = .nil := by cases t <;> first | rfl | cases h1
   rw [if_pos this]
   exact apsZ_ok h
 ·cases he : xv.elems S.st sz with
  | none => rw [he] at h; cases h
  | some q =>
   rw [he] at h
   obtain ⟨m, xs⟩ := q
   have h : frc m (fun m => apsZ sz bytes mu (s.ev fr) S m xs k) = true := h
   rw [frc_eq] at h
   exact apsZ_ok h
noncomputable def bsZ (how n sz : Nat) : BS := match how with
 | 0 => ⟨fun cs S k => k (.sl cs n sz .cap) S⟩
 | 1 => ⟨fun cs S k => addZ S (fun a => .msl a 0 n sz) (.cells cs) k⟩
 | _ => ⟨fun cs S k => addZ S (fun a => .sl cs n sz (.at a)) .tok k⟩
noncomputable def boxZ (x : V) (S : CSt) (k : KX) : Bool := cellsZ x (fun xs => cnd (allOne xs) (addZ S (fun a => .ptr (some (a, 0))) (.cells xs) k) false) (addZ S (fun a => .ptr (some (a, 0))) (.cells [x]) k)
structure EF where
 f : CallX → F8 → CSt → KX → Bool
structure LA where
 f : F8 → List V
noncomputable def zArgs (l : List Arg) : LA := List.rec (motive := fun _ => LA) ⟨fun _ => []⟩ (fun a _ r => ⟨fun fr => (zA a).f fr :: r.f fr⟩) l
theorem zArgs_eq (fr : F8) : ∀ l : List Arg, (zArgs l).f fr = l.map (Arg.ev fr.den)
 | [] => rfl
 | a :: r => by
  show (zA a).f fr :: (zArgs r).f fr = _
  rw [zA_eq, zArgs_eq fr r]; rfl
noncomputable def cvZ (call : CallX) (x : V) (args : List V) (S : CSt) (k : KX) : Bool := match x with
 | .func f pre cap => call f (apL pre (apL args cap)) S k
 | _ => false
noncomputable def zE (i : EI) : EF := match i with
 | .call f args => ⟨fun call fr S k => call f ((zArgs args).f fr) S k⟩
 | .callV x args => ⟨fun call fr S k => cvZ call ((zA x).f fr) ((zArgs args).f fr) S k⟩
 | .next it => ⟨fun _ fr S k => nextX ((zA it).f fr) S k⟩
 | .store sz a x => ⟨fun _ fr S k => stoZ sz ((zA a).f fr) ((zA x).f fr) S k⟩
 | .alloc zero => ⟨fun _ _ S k => addZ S (fun a => .ptr (some (a, 0))) (.cells zero) k⟩
 | .append sz bytes mu s x => ⟨fun _ fr S k => appZ sz bytes mu ((zA s).f fr) ((zA x).f fr) S k⟩
 | .buildSlice n sz how zero parts => ⟨fun _ fr S k => bldZ parts fr zero fun cs => (bsZ how n sz).f cs S k⟩
 | .makeMap => ⟨fun _ _ S k => addZ S (fun a => .map (some a)) (.map [] 0) k⟩
 | .box x => ⟨fun _ fr S k => boxZ ((zA x).f fr) S k⟩
 | .mapSet kk m kx v => ⟨fun _ fr S k => sealP (xE (.mapSet kk (.c ((zA m).f fr)) (.c ((zA kx).f fr)) (.c ((zA v).f fr))) fr00 S) k⟩
 | .delete kk m kx => ⟨fun _ fr S k => sealP (xE (.delete kk (.c ((zA m).f fr)) (.c ((zA kx).f fr))) fr00 S) k⟩
 | .copy sz d s => ⟨fun _ fr S k => sealP (xE (.copy sz (.c ((zA d).f fr)) (.c ((zA s).f fr))) fr00 S) k⟩
 | .strBytes x => ⟨fun _ fr S k => sealP (xE (.strBytes (.c ((zA x).f fr))) fr00 S) k⟩
 | .bytesSame x => ⟨fun _ fr S k => sealP (xE (.bytesSame (.c ((zA x).f fr))) fr00 S) k⟩
 | .frz x => ⟨fun _ fr S k => sealP (xE (.frz (.c ((zA x).f fr))) fr00 S) k⟩
 | .range x => ⟨fun _ fr S k => sealP (xE (.range (.c ((zA x).f fr))) fr00 S) k⟩
 | .makeSlice sz bytes mu zero len cap => ⟨fun _ fr S k => sealP (xE (.makeSlice sz bytes mu zero (.c ((zA len).f fr)) (.c ((zA cap).f fr))) fr00 S) k⟩
 | .panic x => ⟨fun _ _ _ _ => false⟩
theorem zE_ok {cl : Cl} {call : CallX} (hc : CallOk cl call) {i : EI} {fr : F8} {S : CSt} {k : KX} {K Kp : V → St → Prop} (h : (zE i).f call fr S k = true) (hk : ∀ v S', k v S' = true → K v S'.st) : wE cl i fr.den S.st K Kp := by
 have gen : ∀ i : EI, (∃ v S', xE i fr.den S = some (v, S') ∧ k v S' = true) → wE cl i fr.den S.st K Kp := fun i ⟨v, S', hv, h⟩ => xE_sound hv (hk _ _ h)
 cases i <;> simp only [zE, zA_eq] at h <;> try exact gen _ (sealP_ok h)
 case call f args =>
  rw [zArgs_eq] at h
  exact hc _ _ _ _ _ h fun v S' hv => hk _ _ hv
 case callV x args =>
  rw [zArgs_eq] at h
  simp only [wE]
  unfold cvZ at h
  split at h
  ·rename_i f pre cap hx
   rw [apL_eq, apL_eq] at h
   rw [hx]
   show cl f (pre ++ args.map (Arg.ev fr.den) ++ cap) S.st _
   rw [List.append_assoc]
   exact hc _ _ _ _ _ h fun v S' hv => hk _ _ hv
  ·cases h
 case next it => exact nextX_sound' h hk
 case store sz a x => exact gen _ (stoZ_ok h)
 case alloc zero => exact gen _ (addZ_ok h)
 case append sz bytes mu s x => exact gen _ (appZ_ok h)
 case buildSlice n sz how zero parts =>
  obtain ⟨cs, h1, h2⟩ := bldZ_ok h
  refine gen _ ?_
  simp only [xE, h1]
  match how with
  | 0 => exact ⟨_, _, rfl, h2⟩
  | 1 => simp only [bsZ] at h2; exact addZ_ok h2
  | m + 2 => simp only [bsZ] at h2; exact addZ_ok h2
 case makeMap => exact gen _ (addZ_ok h)
 case box x =>
  refine gen _ ?_
  simp only [xE]
  replace h := cellsZ_ok h
  rcases h with ⟨xs, ex, h⟩ | ⟨ex, ho, h⟩
  ·replace h := cond_f h
   obtain ⟨h1, h⟩ := h
   rw [allOne_eq] at h1
   rw [ex]
   show ∃ v S', cond (xs.all V.one) _ none = _ ∧ _
   rw [h1]
   exact addZ_ok h
  ·rw [ex]
   simp only [List.all_cons, List.all_nil, ho, Bool.and_true, cond_true]
   exact addZ_ok h
abbrev KZ := F8 → CSt → Bool
abbrev KD := AX → F8 → CSt → Bool
structure LF where
 f : V → F8 → CSt → KZ → Bool
def zLay (d : Option Nat) : LF := match d with
 | none => ⟨fun _ fr S k => k fr S⟩
 | some d => cond (Nat.blt d 512) ⟨fun v fr S k => k ((zSet d).f v fr) S⟩ ⟨fun _ _ _ _ => false⟩
theorem zLay_sound {d : Option Nat} {v : V} {fr : F8} {S : CSt} {k : KZ} {K : Fr → St → Prop} (h : (zLay d).f v fr S k = true) (hk : ∀ fr' S', k fr' S' = true → K fr'.den S'.st) : K (fr.den.put d v) S.st := by
 cases d with
 | none => exact hk _ _ h
 | some d =>
  have h' : (cond (Nat.blt d 512) (LF.mk fun v fr S k => k ((zSet d).f v fr) S) ⟨fun _ _ _ _ => false⟩).f v fr S k = true := h
  cases hd : Nat.blt d 512 <;> rw [hd] at h'
  ·cases h'
  ·have h2 : k ((zSet d).f v fr) S = true := h'
   have := hk _ _ h2
   rwa [F8.set_den (blt_n hd)] at this
structure IF where
 f : CallX → F8 → CSt → KZ → Bool
noncomputable def zOp (i : I) (d : Option Nat) : IF := match i with
 | .f i => ⟨fun _ fr S k => (zF i).f fr S fun v => (zLay d).f v fr S k⟩
 | .e i => ⟨fun call fr S k => (zE i).f call fr S fun v S' => (zLay d).f v fr S' k⟩
noncomputable def wantZ (v : V) (b : Bool) (x y : Bool) : Bool := match v with
 | .bool c => cnd (c == b) x y
 | .poison => false
 | .abs _ => false
 | _ => y
noncomputable def mvZ (d : Nat) (x : Arg) : IF := cond (Nat.blt d 512) ⟨fun _ fr S k => k ((zSet d).f ((zA x).f fr) fr) S⟩ ⟨fun _ _ _ _ => false⟩
noncomputable def zRunF (i : FI) (d : Option Nat) : IF := match i with
 | .mv x => Option.rec (motive := fun _ => IF) (zOp (.f (.mv x)) none) (fun d => mvZ d x) d
 | i => zOp (.f i) d
noncomputable def zRun (i : I) (d : Option Nat) : IF := match i with
 | .f i => zRunF i d
 | i => zOp i d
noncomputable def zI (x : Item) : IF := match x with
 | .run ⟨d, none, i⟩ => zRun i d
 | .run ⟨d, some (t, b), i⟩ => ⟨fun call fr S k => wantZ ((zA (.t t)).f fr) b ((zOp i d).f call fr S k) ((zLay d).f (.tup []) fr S k)⟩
 | .chk d none i => ⟨fun _ fr S k => (zF i).f fr S fun v => cnd (V.same v ((zA (.t d)).f fr)) (k fr S) false⟩
 | .chk d (some (t, b)) i => ⟨fun _ fr S k => wantZ ((zA (.t t)).f fr) b ((zF i).f fr S fun v => cnd (V.same v ((zA (.t d)).f fr)) (k fr S) false) (k fr S)⟩
theorem zOp_sound {cl : Cl} {call : CallX} (hc : CallOk cl call) {i : I} {d : Option Nat} {fr : F8} {S : CSt} {k : KZ} {K : Fr → St → Prop} {Kp : V → St → Prop} (h : (zOp i d).f call fr S k = true) (hk : ∀ fr' S', k fr' S' = true → K fr'.den S'.st) : wItem cl (.run ⟨d, none, i⟩) fr.den S.st K Kp := by
 simp only [wItem, wanted]
 cases i with
 | f i =>
  have h' : (zF i).f fr S (fun v => (zLay d).f v fr S k) = true := h
  obtain ⟨v, hv, h2⟩ := zF_ok h'
  simp only [hv]
  exact zLay_sound h2 hk
 | e i =>
  have h' : (zE i).f call fr S (fun v S' => (zLay d).f v fr S' k) = true := h
  exact zE_ok hc h' fun v S' h2 => zLay_sound h2 hk
theorem wItem_run {cl : Cl} {i : I} {d : Option Nat} {g : Option (Nat × Bool)} {fr : Fr} {S : St} {K : Fr → St → Prop} {Kp : V → St → Prop} (hw : wanted fr g = some true) (h : wItem cl (.run ⟨d, none, i⟩) fr S K Kp) : wItem cl (.run ⟨d, g, i⟩) fr S K Kp := by
 simp only [wItem, wanted] at h
 simp only [wItem, hw]
 exact h
theorem wantZ_eq {fr : Fr} {t : Nat} {b x y : Bool} (h : wantZ (fr t) b x y = true) : (wanted fr (some (t, b)) = some true ∧ x = true) ∨ (wanted fr (some (t, b)) = some false ∧ y = true) := by
 simp only [wanted]
 generalize fr t = v at h
 cases v <;> first | exact .inr ⟨rfl, h⟩ | (cases h; done) | skip
 rename_i c
 have h' : cnd (c == b) x y = true := h
 cases hcb : c == b <;> rw [hcb] at h'
 ·exact .inr ⟨by simp only [hcb], h'⟩
 ·exact .inl ⟨by simp only [hcb], h'⟩
theorem zRun_sound {cl : Cl} {call : CallX} (hc : CallOk cl call) {i : I} {d : Option Nat} {fr : F8} {S : CSt} {k : KZ} {K : Fr → St → Prop} {Kp : V → St → Prop} (h : (zRun i d).f call fr S k = true) (hk : ∀ fr' S', k fr' S' = true → K fr'.den S'.st) : wItem cl (.run ⟨d, none, i⟩) fr.den S.st K Kp := by
 cases i with
 | e i => exact zOp_sound hc h hk
 | f i =>
  cases i <;> try exact zOp_sound hc h hk
  rename_i x
  cases d with
  | none => exact zOp_sound hc h hk
  | some d =>
   have h' : (mvZ d x).f call fr S k = true := h
   unfold mvZ at h'
   cases hd : Nat.blt d 512 <;> rw [hd] at h'
   ·cases h'
   ·have h2 : k ((zSet d).f ((zA x).f fr) fr) S = true := h'
    have := hk _ _ h2
    rw [F8.set_den (blt_n hd), zA_eq] at this
    simp only [wItem, wanted, aF]
    exact this
theorem zI_sound {cl : Cl} {call : CallX} (hc : CallOk cl call) {x : Item} {fr : F8} {S : CSt} {k : KZ} {K : Fr → St → Prop} {Kp : V → St → Prop} (h : (zI x).f call fr S k = true) (hk : ∀ fr' S', k fr' S' = true → K fr'.den S'.st) : wItem cl x fr.den S.st K Kp := by
 have chk : ∀ (d : Nat) (i : FI), (zF i).f fr S (fun v => cnd (V.same v ((zA (.t d)).f fr)) (k fr S) false) = true → aF i fr.den S.st = some (fr.den d) ∧ K fr.den S.st := fun d i h => by
  obtain ⟨v, hv, h2⟩ := zF_ok h
  cases hs : V.same v ((zA (.t d)).f fr) <;> rw [hs] at h2
  ·cases h2
  ·have := V.same_eq hs
   rw [zA_eq] at this
   rw [hv, this]
   exact ⟨rfl, hk _ _ h2⟩
 match x with
 | .run ⟨d, none, i⟩ => exact zRun_sound hc (show (zRun i d).f call fr S k = true from h) hk
 | .run ⟨d, some (t, b), i⟩ =>
  have h' : wantZ ((zA (.t t)).f fr) b ((zOp i d).f call fr S k) ((zLay d).f (.tup []) fr S k) = true := h
  rw [zA_eq] at h'
  rcases wantZ_eq (fr := fr.den) (t := t) h' with ⟨e, h2⟩ | ⟨e, h2⟩
  ·exact wItem_run e (zOp_sound hc h2 hk)
  ·simp only [wItem, e]
   exact zLay_sound h2 hk
 | .chk d none i =>
  simp only [wItem, wanted]
  exact chk d i h
 | .chk d (some (t, b)) i =>
  have h' : wantZ ((zA (.t t)).f fr) b ((zF i).f fr S fun v => cnd (V.same v ((zA (.t d)).f fr)) (k fr S) false) (k fr S) = true := h
  rw [zA_eq] at h'
  rcases wantZ_eq (fr := fr.den) (t := t) h' with ⟨e, h2⟩ | ⟨e, h2⟩
  ·simp only [wItem, e]
   exact chk d i h2
  ·simp only [wItem, e]
   exact hk _ _ h2
structure CF where
 f : CallX → F8 → CSt → KD → Bool
structure NF where
 f : CallX → F8 → CSt → KZ → Bool
noncomputable def zL (l : List Item) : NF := List.rec (motive := fun _ => NF) ⟨fun _ fr S k => k fr S⟩ (fun x _ r => ⟨fun call fr S k => (zI x).f call fr S fun fr' S' => r.f call fr' S' k⟩) l
theorem zL_sound {cl : Cl} {call : CallX} (hc : CallOk cl call) : ∀ {l : List Item} {fr : F8} {S : CSt} {k : KZ} {K : Fr → St → Prop} {Kp : V → St → Prop}, (zL l).f call fr S k = true → (∀ fr' S', k fr' S' = true → K fr'.den S'.st) → wItems cl l fr.den S.st K Kp
 | [], fr, S, k, K, Kp, h, hk => hk _ _ h
 | x :: r, fr, S, k, K, Kp, h, hk => by
  have h' : (zI x).f call fr S (fun fr' S' => (zL r).f call fr' S' k) = true := h
  exact zI_sound hc h' fun fr' S' h2 => zL_sound hc h2 hk
def thenZ (e : AX) (a b : Bool) : Bool := match e with
 | .normal => a
 | _ => b
noncomputable def blkZ (id : Nat) (k : KD) (e : AX) (fr : F8) (S : CSt) : Bool := match e with
 | .exit i => cnd (Nat.beq i id) (k .normal fr S) (k (.exit i) fr S)
 | .normal => k .normal fr S
 | .ret => k .ret fr S
def rounds : Nat := 100000
noncomputable def zLoop (c : CF) (call : CallX) (n : Nat) : F8 → CSt → KD → Bool :=
 Nat.rec (motive := fun _ => F8 → CSt → KD → Bool) (fun _ _ _ => false) (fun _ ih fr S k => c.f call fr S fun e fr' S' => thenZ e (ih fr' S' k) (k e fr' S')) n
noncomputable def iteZ (c : V) (a b : Bool) : Bool := match c with
 | .bool q => Bool.rec (motive := fun _ => Bool) b a q
 | .abs .bool => cnd a b false
 | _ => false
noncomputable def thenR (e : AX) (a : Bool) (b : AX → Bool) : Bool := AX.rec (motive := fun _ => Bool) a (fun i => b (.exit i)) (b .ret) e
theorem thenR_cases {e : AX} {a : Bool} {b : AX → Bool} (h : thenR e a b = true) : (e = .normal ∧ a = true) ∨ (e ≠ .normal ∧ b e = true) := by
 cases e
 ·exact .inl ⟨rfl, h⟩
 ·exact .inr ⟨fun e => (by cases e), h⟩
 ·exact .inr ⟨fun e => (by cases e), h⟩
noncomputable def seqZ (a : Cd) (ia ib : CF) : CF := match a with
 | .reg _ items => ⟨fun call fr S k => (zL items).f call fr S fun fr' S' => ib.f call fr' S' k⟩
 | _ => ⟨fun call fr S k => ia.f call fr S fun e fr' S' => thenR e (ib.f call fr' S' k) (fun e => k e fr' S')⟩
noncomputable def zC (c : Cd) : CF := Cd.rec (motive := fun _ => CF)
 ⟨fun _ fr S k => k .normal fr S⟩
 (fun _ items => ⟨fun call fr S k => (zL items).f call fr S fun fr' S' => k .normal fr' S'⟩)
 (fun a _ ia ib => seqZ a ia ib)
 (fun c _ _ a b => ⟨fun call fr S k => iteZ ((zA c).f fr) (a.f call fr S k) (b.f call fr S k)⟩)
 (fun id _ a => ⟨fun call fr S k => a.f call fr S (blkZ id k)⟩)
 (fun _ a => ⟨fun call fr S k => zLoop a call rounds fr S k⟩)
 (fun id => ⟨fun _ fr S k => k (.exit id) fr S⟩)
 ⟨fun _ fr S k => k .ret fr S⟩
 (fun _ _ _ _ a b => ⟨fun call fr S k => a.f call fr S k && b.f call fr S k⟩)
 ⟨fun _ _ _ _ => false⟩ c
theorem seqZ_ok {P : Program} {w0 : World} {a : Cd} {ia ib : CF} {call : CallX} (hc : CallOk (RSim P w0) call) {fr : F8} {S : CSt} {k : KD} {K : Fr → St → Prop} {Q : CPost} (h : (seqZ a ia ib).f call fr S k = true)
  (gen : ia.f call fr S (fun e fr' S' => thenR e (ib.f call fr' S' k) (fun e => k e fr' S')) = true → wCode (RSim P w0) a fr.den S.st (thenQ K Q)) (hb : ∀ (_ : List Item) fr' S', ib.f call fr' S' k = true → K fr'.den S'.st) : wCode (RSim P w0) a fr.den S.st (thenQ K Q) := by
 cases a <;> try exact gen h
 rename_i ord items
 have h' : (zL items).f call fr S (fun fr' S' => ib.f call fr' S' k) = true := h
 simp only [wCode]
 exact zL_sound hc h' fun fr' S' h2 => hb items _ _ h2
theorem zC_loop (c : Cd) : zC (.loop c) = ⟨fun call fr S k => zLoop (zC c) call rounds fr S k⟩ := rfl
def CodeOk (P : Program) (w0 : World) (c : Cd) : Prop := ∀ call, CallOk (RSim P w0) call → ∀ fr S k (Q : CPost), (zC c).f call fr S k = true → (∀ e fr' S', k e fr' S' = true → Q e.out fr'.den S'.st) → wCode (RSim P w0) c fr.den S.st Q
theorem zC_sound {P : Program} {w0 : World} : ∀ c : Cd, CodeOk P w0 c
 | .skip => fun call hc fr S k Q h hk => by simp only [wCode]; exact hk _ _ _ h
 | .reg ord items => fun call hc fr S k Q h hk => by
  simp only [wCode]
  exact zL_sound hc (show (zL items).f call fr S (fun fr' S' => k .normal fr' S') = true from h) fun fr' S' h' => hk _ _ _ h'
 | .seq a b => fun call hc fr S k Q h hk => by
  have iha := zC_sound (P := P) (w0 := w0) a
  have ihb := zC_sound (P := P) (w0 := w0) b
  simp only [wCode]
  have gen : (zC a).f call fr S (fun e fr' S' => thenR e ((zC b).f call fr' S' k) (fun e => k e fr' S')) = true → wCode (RSim P w0) a fr.den S.st (thenQ (fun fr' S' => wCode (RSim P w0) b fr' S' Q) Q) := fun h' => by
   refine iha call hc fr S _ _ h' fun e fr' S' h2 => ?_
   rcases thenR_cases h2 with ⟨rfl, h2⟩ | ⟨hn, h2⟩
   ·exact ihb call hc _ _ _ _ h2 hk
   ·cases e with
    | normal => exact absurd rfl hn
    | exit i => exact hk _ _ _ h2
    | ret => exact hk _ _ _ h2
  exact seqZ_ok hc h gen fun items fr' S' h2 => ihb call hc _ _ _ _ h2 hk
 | .ite c a b => fun call hc fr S k Q h hk => by
  have iha := zC_sound (P := P) (w0 := w0) a
  have ihb := zC_sound (P := P) (w0 := w0) b
  simp only [wCode]
  have h' : iteZ ((zA c).f fr) ((zC a).f call fr S k) ((zC b).f call fr S k) = true := h
  rw [zA_eq] at h'
  unfold iteZ at h'
  split at h'
  ·rename_i q hq
   rw [hq]
   cases q
   ·exact ihb call hc _ _ _ _ h' hk
   ·exact iha call hc _ _ _ _ h' hk
  ·rename_i hq
   rw [hq]
   obtain ⟨h1, h2⟩ := cond_f h'
   exact ⟨iha call hc _ _ _ _ h1 hk, ihb call hc _ _ _ _ h2 hk⟩
  ·cases h'
 | .blk id c => fun call hc fr S k Q h hk => by
  have ih := zC_sound (P := P) (w0 := w0) c
  simp only [wCode]
  have h' : (zC c).f call fr S (blkZ id k) = true := h
  refine ih call hc fr S _ _ h' fun e fr' S' h2 => ?_
  cases e with
  | normal => exact hk _ _ _ h2
  | ret => exact hk _ _ _ h2
  | exit i =>
   have h3 : cnd (Nat.beq i id) (k .normal fr' S') (k (.exit i) fr' S') = true := h2
   show (if i = id then Q .normal fr'.den S'.st else Q (.exit i) fr'.den S'.st)
   rw [nbeq_iff] at h3
   by_cases hi : i = id
   ·rw [if_pos hi]
    rw [decide_eq_true hi] at h3
    exact hk _ _ _ h3
   ·rw [if_neg hi]
    rw [decide_eq_false hi] at h3
    exact hk _ _ _ h3
 | .loop c => fun call hc fr S k Q h hk => by
  have ih := zC_sound (P := P) (w0 := w0) c
  simp only [wCode]
  have key : ∀ (n : Nat) (fr : F8) (S : CSt), zLoop (zC c) call n fr S k = true → Loop (fun fr S Q => wCode (RSim P w0) c fr S Q) Q fr.den S.st := by
   intro n
   induction n with
   | zero => intro fr S h; cases h
   | succ n ihn =>
    intro fr S h
    have h' : (zC c).f call fr S (fun e fr' S' => thenZ e (zLoop (zC c) call n fr' S' k) (k e fr' S')) = true := h
    refine Loop.fold RSim.le (ih call hc fr S _ _ h' fun e fr' S' h2 => ?_)
    cases e with
    | normal => exact ihn _ _ h2
    | exit i => exact hk _ _ _ h2
    | ret => exact hk _ _ _ h2
  rw [zC_loop] at h
  generalize rounds = n at h
  exact key n fr S h
 | .exit id => fun call hc fr S k Q h hk => by simp only [wCode]; exact hk _ _ _ h
 | .ret => fun call hc fr S k Q h hk => by simp only [wCode]; exact hk _ _ _ h
 | .alt i j a b => fun call hc fr S k Q h hk => by
  have iha := zC_sound (P := P) (w0 := w0) a
  have ihb := zC_sound (P := P) (w0 := w0) b
  simp only [wCode]
  have h' : ((zC a).f call fr S k && (zC b).f call fr S k) = true := h
  rw [Bool.and_eq_true] at h'
  exact ⟨iha call hc _ _ _ _ h'.1 hk, ihb call hc _ _ _ _ h'.2 hk⟩
 | .stuck => fun call hc fr S k Q h hk => by cases h
noncomputable def frameZ (l : List V) (i : Nat) (fr : F8) : F8 := List.rec (motive := fun _ => Nat → F8 → F8) (fun _ fr => fr) (fun v _ ih i fr => ih (Nat.succ i) ((zSet i).f v fr)) l i fr
theorem frameZ_get : ∀ (l : List V) (j : Nat) (fr : F8), j + l.length ≤ 512 → ∀ i, (frameZ l j fr).den i = if j ≤ i ∧ i < j + l.length then l.getD (i - j) (.tup []) else fr.den i
 | [], j, fr, h, i => by
  rw [if_neg (by simp only [List.length_nil]; omega)]; rfl
 | v :: r, j, fr, h, i => by
  simp only [List.length_cons] at h
  show (frameZ r (j + 1) ((zSet j).f v fr)).den i = _
  rw [frameZ_get r (j + 1) _ (by omega) i, F8.set_den (by omega)]
  unfold Fr.put
  simp only [List.length_cons]
  by_cases h2 : i = j
  ·subst h2
   rw [if_neg (by omega), if_pos rfl, if_pos (by omega), Nat.sub_self, List.getD_cons_zero]
  ·by_cases h3 : j ≤ i ∧ i < j + (r.length + 1)
   ·rw [if_pos (by omega), if_pos h3, show i - j = (i - (j + 1)) + 1 by omega, List.getD_cons_succ]
   ·rw [if_neg (by omega), if_neg h2, if_neg h3]
theorem frameZ_frame0 {l : List V} (h : l.length ≤ 512) : (frameZ l 0 F8.nil).den = frame0 l := by
 funext i
 rw [frameZ_get l 0 F8.nil (by omega) i, F8.nil_den]
 unfold frame0
 split
 ·rfl
 ·rename_i hn
  rw [List.getD_eq_getElem?_getD, List.getElem?_eq_none (by omega)]
  rfl
structure RF where
 f : F8 → CSt → KX → Bool
noncomputable def zRes (rs : List RV) : RF := match rs with
 | [] => ⟨fun _ S k => k (.tup []) S⟩
 | [.tmp t] => ⟨fun fr S k => k ((zA (.t t)).f fr) S⟩
 | rs => ⟨fun fr S k => match readRes fr.den S.st rs with
  | some v => k v S
  | none => false⟩
theorem zRes_sound {rs : List RV} {fr : F8} {S : CSt} {k : KX} (h : (zRes rs).f fr S k = true) : ∃ v, readRes fr.den S.st rs = some v ∧ k v S = true := by
 have gen : ∀ rs, (match readRes fr.den S.st rs with | some v => k v S | none => false) = true → ∃ v, readRes fr.den S.st rs = some v ∧ k v S = true := fun rs h => by
  split at h
  ·rename_i v hv; exact ⟨v, hv, h⟩
  ·cases h
 match rs, h with
 | [], h => exact ⟨.tup [], rfl, h⟩
 | [.tmp t], h =>
  have h' : k ((zA (.t t)).f fr) S = true := h
  rw [zA_eq] at h'
  exact ⟨_, rfl, h'⟩
 | [.cell t a s], h => exact gen _ h
 | .tmp t :: x :: r, h => exact gen _ h
 | .cell t a s :: x :: r, h => exact gen _ h
noncomputable def endZ (rs : List RV) (k : KX) (e : AX) (fr : F8) (S : CSt) : Bool := match e with
 | .exit _ => false
 | .normal => (zRes rs).f fr S k
 | .ret => (zRes rs).f fr S k
structure BF where
 f : CallX → List V → CSt → KX → Bool
noncomputable def zFn (o : Option FnC) : BF := match o with
 | some ⟨b, rs, n⟩ => ⟨fun call args S k => cnd (Nat.ble (lenL args) n && Nat.ble (lenL args) 512) ((zC b).f call (frameZ args 0 F8.nil) S (endZ rs k)) false⟩
 | none => ⟨fun _ _ _ _ => false⟩
structure PF where
 f : CallX → List V → CSt → KX → Bool
noncomputable def zSym (tab : FuncId → Option FnC) (prim : PrimX) (f : FuncId) : PF := match prim f with
 | some p => ⟨fun _ args S k => p args S k⟩
 | none => ⟨fun call args S k => (zFn (tab f)).f call args S k⟩
noncomputable def zCall (tab : FuncId → Option FnC) (prim : PrimX) (n : Nat) : CallX :=
 Nat.rec (motive := fun _ => CallX) (fun _ _ _ _ => false) (fun _ ih f args S k => (zSym tab prim f).f ih args S k) n
theorem zCall_sound {P : Program} {w0 : World} {tab : FuncId → Option FnC} {prim : PrimX} (ht : ∀ f fc, tab f = some fc → FnOk P f fc) (hp : PrimOk P w0 prim) : ∀ n : Nat, CallOk (RSim P w0) (zCall tab prim n)
 | 0 => fun f args S k Q h _ => by cases h
 | n + 1 => fun f args S k Q h hk => by
  have ih := zCall_sound ht hp n
  have h' : (zSym tab prim f).f (zCall tab prim n) args S k = true := h
  unfold zSym at h'
  split at h'
  ·rename_i p hpf
   exact hp f p hpf args S k Q h' hk
  ·have h2 : (zFn (tab f)).f (zCall tab prim n) args S k = true := h'
   cases hf : tab f with
   | none => rw [hf] at h2; cases h2
   | some fc =>
    rw [hf] at h2
    obtain ⟨b, rs, m⟩ := fc
    have h3 : cnd (Nat.ble (lenL args) m && Nat.ble (lenL args) 512) ((zC b).f (zCall tab prim n) (frameZ args 0 F8.nil) S (endZ rs k)) false = true := h2
    rw [lenL_eq] at h3
    cases hb : (Nat.ble args.length m && Nat.ble args.length 512) <;> rw [hb] at h3
    ·cases h3
    ·rw [Bool.and_eq_true] at hb
     refine ht f _ hf _ _ _ _ (Nat.le_of_ble_eq_true hb.1) ?_
     rw [← frameZ_frame0 (Nat.le_of_ble_eq_true hb.2)]
     refine zC_sound b _ ih _ _ _ _ h3 fun e fr' S' he => ?_
     have key : (zRes rs).f fr' S' k = true → (match readRes fr'.den S'.st rs with | some v => Q (.ret v) S'.st | none => False) := fun h => by
      obtain ⟨v, hv, h4⟩ := zRes_sound h
      rw [hv]; exact hk _ _ h4
     cases e with
     | exit i => cases he
     | normal => exact key he
     | ret => exact key he
theorem z_runs {P : Program} {w0 : World} {tab : FuncId → Option FnC} {prim : PrimX} (ht : ∀ f fc, tab f = some fc → FnOk P f fc) (hp : PrimOk P w0 prim) {n : Nat} {f : FuncId} {args : List V} {S : CSt} {k : KX} {Q : AEnd → St → Prop}
  (h : zCall tab prim n f args S k = true) (hk : ∀ v S', k v S' = true → Q (.ret v) S'.st) : RSim P w0 f args S.st Q :=
 zCall_sound ht hp n f args S k Q h hk
end Go.VM
