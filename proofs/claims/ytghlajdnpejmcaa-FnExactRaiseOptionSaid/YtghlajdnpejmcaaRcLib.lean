/- Step lemmas of my own for the walks: frames as lists, memory as separate parts, the operations one by one; no condition. -/
import Derived.WalkKit
import Derived.ProofKit
import Derived.Below
import Derived.Deep.LoopGhost
import Derived.Maps.AppendAt
import Derived.Laws.MakeOwn
import Derived.Great.BuildSlice
import Derived.KernelRfl
import Derived.OrdersHeld
import Derived.OpenShut
import Derived.Carry
import Derived.ChangeSame
import Derived.Deep.Slices
import Derived.Lib.SlBytesRow
import Derived.Lib.BufferRead
namespace Go.GL
open Go Go.RowKit

/-! ## 1. The frame as a list -/
abbrev Env := List (Nat × Value)

def Env.get : Env → Nat → Option Value
  | [], _ => none
  | p :: r, s => cond (Nat.beq p.1 s) (some p.2) (Env.get r s)

def ev (env : Env) : Operand → Option Value
  | .tmp t => env.get t
  | .const v => some v
  | .global g => some (.pointer (some ⟨g, 0, none⟩))
  | .func f => some (.func (.func f) #[] #[])

structure Rel (N : Nat) (env : Env) (a : Act) : Prop where
  size : a.tmps.size = N
  defers : a.defers = []
  val : ∀ s v, env.get s = some v → a.tmps.getD s undef = v

theorem Rel.eval {N env a} (h : Rel N env a) {x v} (hx : ev env x = some v) : a.eval x = v := by
  cases x with
  | tmp t => exact h.val t v hx
  | const u => exact Option.some.inj hx
  | global g => exact Option.some.inj hx
  | func f => exact Option.some.inj hx

theorem Rel.put {N env a} (h : Rel N env a) {d : Nat} {v : Value} (hd : Nat.blt d N = true) : Rel N ((d, v) :: env) (a.put (some d) v) := by
  have hd' : d < a.tmps.size := by rw [h.size]; exact (Nat.blt_eq ▸ hd)
  refine ⟨by simp [Act.put, h.size], by simpa [Act.put] using h.defers, fun s u hs => ?_⟩
  simp only [Env.get] at hs
  cases hb : Nat.beq d s with
  | true =>
    rw [hb] at hs
    have hds : d = s := Nat.eq_of_beq_eq_true hb
    subst hds
    simp only [cond_true, Option.some.injEq] at hs
    subst hs
    simp [Act.put, hd']
  | false =>
    rw [hb] at hs
    have hne : d ≠ s := Nat.ne_of_beq_eq_false hb
    have := h.val s u hs
    simpa [Act.put, Array.getElem?_setIfInBounds_ne hne] using this

theorem Rel.put_none {N env a} (h : Rel N env a) {v : Value} : Rel N env (a.put none v) := h

/-- another list that says no more -/
theorem Rel.sub {N env env' a} (h : Rel N env a) (hs : ∀ p ∈ env', env.get p.1 = some p.2) : Rel N env' a := by
  refine ⟨h.size, h.defers, fun s v hv => ?_⟩
  induction env' with
  | nil => cases hv
  | cons p r ih =>
    simp only [Env.get] at hv
    cases hb : Nat.beq p.1 s with
    | true =>
      rw [hb] at hv
      have hps : p.1 = s := Nat.eq_of_beq_eq_true hb
      simp only [cond_true, Option.some.injEq] at hv
      subst hv hps
      exact h.val _ _ (hs p (List.mem_cons_self ..))
    | false =>
      rw [hb] at hv
      exact ih (fun q hq => hs q (List.mem_cons_of_mem _ hq)) hv

/-- 'env' says all that 'env'' says (a check by computing) -/
def Env.All (env : Env) : Env → Prop
  | [] => True
  | p :: r => env.get p.1 = some p.2 ∧ Env.All env r
theorem Env.All.mem {env env' : Env} (h : Env.All env env') : ∀ p ∈ env', env.get p.1 = some p.2 := by
  induction env' with
  | nil => intro p hp; cases hp
  | cons q r ih =>
    intro p hp
    rcases List.mem_cons.1 hp with rfl | hp
    · exact h.1
    · exact ih h.2 p hp

/-! ## 2. Judgements -/
section
variable (P : Program) (N : Nat)
def rwp (ops : Array Oper) (Q : Exit → Act → World → Prop) (rest : List Oper) (env : Env) (w : World) : Prop :=
  ∀ a, Rel N env a → wpList P ops Q rest a w
def cwp (c : Code) (Q : Exit → Act → World → Prop) (env : Env) (w : World) : Prop :=
  ∀ a, Rel N env a → c.wp P Q a w
def qwp (Q : Act → World → Prop) (env : Env) (w : World) : Prop := ∀ a, Rel N env a → Q a w
end

section
variable {P : Program} {N : Nat} {Q : Exit → Act → World → Prop} {env env' : Env} {w : World} {ops : Array Oper} {rest : List Oper}

theorem c_seq {x y : Code} (h : cwp P N x (Exit.then (y.wp P Q) Q) env w) : cwp P N (.seq x y) Q env w := fun a ha => wp_seq (h a ha)
theorem c_region {id : Nat} {l : List Oper} (h : rwp P N l.toArray Q l env w) : cwp P N (.region id l.toArray false) Q env w := fun a ha => wp_region_lit (h a ha)
theorem c_skip (h : qwp N (Q .normal) env w) : cwp P N .skip Q env w := fun a ha => wp_skip (h a ha)
theorem c_exit {id : Nat} (h : qwp N (Q (.exit id)) env w) : cwp P N (.exit id) Q env w := fun a ha => wp_exit (h a ha)
theorem c_block {id : Nat} {c : Code} (h : cwp P N c (Exit.inBlock id Q) env w) : cwp P N (.block id c) Q env w := fun a ha => wp_block (h a ha)
theorem c_cond {c : Operand} {x y : Code} {b : Bool} (hc : ev env c = some (.bool b)) (ht : b = true → cwp P N x Q env w) (hf : b = false → cwp P N y Q env w) : cwp P N (.cond c x y) Q env w :=
  fun a ha => wp_cond_split (ha.eval hc) (fun h => ht h a ha) (fun h => hf h a ha)
theorem c_cond_t {c : Operand} {x y : Code} (hc : ev env c = some (.bool true)) (ht : cwp P N x Q env w) : cwp P N (.cond c x y) Q env w :=
  fun a ha => wp_cond_true (ha.eval hc) (ht a ha)
theorem c_cond_f {c : Operand} {x y : Code} (hc : ev env c = some (.bool false)) (hf : cwp P N y Q env w) : cwp P N (.cond c x y) Q env w :=
  fun a ha => wp_cond_false (ha.eval hc) (hf a ha)
theorem c_keep {c : Code} (env' : Env) (hs : Env.All env env') (h : cwp P N c Q env' w) : cwp P N c Q env w := fun a ha => h a (ha.sub hs.mem)
/-- the end of a region -/
theorem r_nil (h : qwp N (Q .normal) env w) : rwp P N ops Q [] env w := fun a ha => wpList_nil (h a ha)
theorem r_nil_seq {y : Code} (env' : Env) (hs : Env.All env env') (h : cwp P N y Q env' w) : rwp P N ops (Exit.then (y.wp P Q) Q) [] env w := fun a ha => wpList_nil (h a (ha.sub hs.mem))
theorem q_seq {y : Code} (env' : Env) (hs : Env.All env env') (h : cwp P N y Q env' w) : qwp N (Exit.then (y.wp P Q) Q .normal) env w := fun a ha => h a (ha.sub hs.mem)
theorem q_keep {K : Act → World → Prop} (env' : Env) (hs : Env.All env env') (h : qwp N K env' w) : qwp N K env w := fun a ha => h a (ha.sub hs.mem)

/-! a cut: what holds where ways meet -/
def cutQ (N : Nat) (J : Env → World → Prop) (Q : Exit → Act → World → Prop) : Exit → Act → World → Prop
  | .normal, a, w => ∃ env, Rel N env a ∧ J env w
  | e, a, w => Q e a w
theorem c_cut {x y : Code} (J : Env → World → Prop) (h1 : cwp P N x (cutQ N J Q) env w) (h2 : ∀ env w, J env w → cwp P N y Q env w) : cwp P N (.seq x y) Q env w := by
  intro a ha
  refine wp_seq (wp_mono (h1 a ha) ?_)
  intro e a' w' hq
  cases e with
  | normal => obtain ⟨env', hr, hJ⟩ := hq; exact h2 env' w' hJ a' hr
  | exit id => exact hq
  | goto l => exact hq
  | ret => exact hq
  | panic ch => exact hq
  | outgrown => exact hq
/-- a cut inside a region: the rest of its operations behind -/
theorem q_cut {J : Env → World → Prop} {Q : Exit → Act → World → Prop} (env' : Env) (hs : Env.All env env') (h : J env' w) : qwp N (cutQ N J Q .normal) env w := fun _ ha => ⟨env', ha.sub hs.mem, h⟩

/-! a loop -/
def loopQ (N : Nat) (I : Nat → Env → World → Prop) (n : Nat) (Q : Exit → Act → World → Prop) : Exit → Act → World → Prop
  | .normal, a, w => ∃ m, m < n ∧ ∃ env, Rel N env a ∧ I m env w
  | e, a, w => Q e a w
theorem c_loop {c : Code} (I : Nat → Env → World → Prop) (n : Nat) (h0 : I n env w) (round : ∀ n env w, I n env w → cwp P N c (loopQ N I n Q) env w) : cwp P N (.loop c) Q env w := by
  intro a ha
  refine wp_loop_ghost (fun n a w => ∃ env, Rel N env a ∧ I n env w) n ⟨env, ha, h0⟩ ?_
  rintro n a w ⟨env, hr, hI⟩
  refine wp_mono (round n env w hI a hr) ?_
  intro e a' w' hq
  cases e with
  | normal => obtain ⟨m, hm, env', hr', hI'⟩ := hq; exact ⟨m, hm, env', hr', hI'⟩
  | exit id => exact hq
  | goto l => exact hq
  | ret => exact hq
  | panic ch => exact hq
  | outgrown => exact hq
theorem q_loop {I : Nat → Env → World → Prop} {n : Nat} {Q : Exit → Act → World → Prop} (m : Nat) (hm : m < n) (env' : Env) (hs : Env.All env env') (h : I m env' w) : qwp N (loopQ N I n Q .normal) env w := fun _ ha => ⟨m, hm, env', ha.sub hs.mem, h⟩

/-! entering, leaving -/
def argEnv (args : List Value) : Env := args.zipIdx.map fun p => (p.2, p.1)
theorem argEnv_get (args : List Value) (k s : Nat) (v : Value) (h : Env.get ((args.zipIdx k).map fun p => (p.2, p.1)) s = some v) : k ≤ s ∧ args[s - k]? = some v := by
  induction args generalizing k with
  | nil => cases h
  | cons x r ih =>
    simp only [List.zipIdx_cons, List.map_cons, Env.get] at h
    cases hb : Nat.beq k s with
    | true =>
      rw [hb] at h
      have hks : k = s := Nat.eq_of_beq_eq_true hb
      subst hks
      simpa using h
    | false =>
      rw [hb] at h
      have hne : k ≠ s := Nat.ne_of_beq_eq_false hb
      obtain ⟨h1, h2⟩ := ih (k + 1) h
      refine ⟨by omega, ?_⟩
      rw [show s - k = (s - (k + 1)) + 1 by omega]
      simpa using h2
theorem enter {f : FuncId} {fn : Func} {c : Code} {l : List Value} {R : Ending → World → Prop} (hf : P.funcs[f]? = some fn) (hb : fn.body = some c) (hN : fn.ntmps = N) (hl : Nat.ble l.length N = true)
    (h : cwp P N c (bodyPost P fn R) (argEnv l) w) : Calls P f l.toArray w R := by
  have hl' : l.length ≤ N := (Nat.ble_eq ▸ hl)
  refine calls_of_wp hf hb (h _ ⟨by simp [hN]; omega, rfl, fun s v hv => ?_⟩)
  obtain ⟨-, h2⟩ := argEnv_get l 0 s v hv
  rw [Nat.sub_zero] at h2
  have hs : s < l.length := (List.getElem?_eq_some_iff.1 h2).1
  rw [Array.getD_eq_getD_getElem?, Array.getElem?_append_left (by simpa using hs)]
  simp [h2]
theorem c_ret {fn : Func} {R : Ending → World → Prop} {v : Value} (hr : ∀ a, Rel N env a → (results fn a.tmps).run P w = .ok v w) (hR : R (.returned v) w)
    (hQ : ∀ a w, bodyPost P fn R .ret a w → Q .ret a w) : cwp P N .ret Q env w :=
  fun a ha => wp_ret (hQ a w (bodyPost_ret (hr a ha) ha.defers hR))
theorem c_ret1 {fn : Func} {R : Ending → World → Prop} {s : Nat} {v : Value} (hQ : ∀ a w, bodyPost P fn R .ret a w → Q .ret a w) (hr : fn.results = #[.tmp s]) (hv : env.get s = some v) (hR : R (.returned v) w) : cwp P N .ret Q env w :=
  c_ret (fun a ha => by rw [results_tmp hr, ha.val s v hv]) hR hQ
theorem c_ret2 {fn : Func} {R : Ending → World → Prop} {s t : Nat} {v u : Value} (hQ : ∀ a w, bodyPost P fn R .ret a w → Q .ret a w) (hr : fn.results = #[.tmp s, .tmp t]) (hv : env.get s = some v) (hu : env.get t = some u) (hR : R (.returned (.tuple #[v, u])) w) : cwp P N .ret Q env w :=
  c_ret (fun a ha => by rw [results_tmp2 hr, ha.val s v hv, ha.val t u hu]) hR hQ
theorem c_ret3 {fn : Func} {R : Ending → World → Prop} {s t r : Nat} {v u x : Value} (hQ : ∀ a w, bodyPost P fn R .ret a w → Q .ret a w) (hr : fn.results = #[.tmp s, .tmp t, .tmp r]) (hv : env.get s = some v) (hu : env.get t = some u) (hx : env.get r = some x) (hR : R (.returned (.tuple #[v, u, x])) w) : cwp P N .ret Q env w :=
  c_ret (fun a ha => by have h1 := ha.val s v hv; have h2 := ha.val t u hu; have h3 := ha.val r x hx; rw [Array.getD_eq_getD_getElem?] at h1 h2 h3; simp [results, hr, h1, h2, h3]) hR hQ
end
end Go.GL

namespace Go.GL
open Go Go.RowKit

/-! ## 3. Strings -/
abbrev Bytes := List UInt8
def BS (l : Bytes) : ByteArray := ⟨l.toArray⟩
theorem BS_size (l : Bytes) : (BS l).size = l.length := by simp [BS, ByteArray.size]
theorem BS_toList (l : Bytes) : (BS l).toList = l := by rw [Go.ByteArray.toList_eq]; simp [BS]
theorem BS_app (a b : Bytes) : BS a ++ BS b = BS (a ++ b) := by
  apply ByteArray.ext
  simp [BS]
theorem BS_get (l : Bytes) (i : Nat) : (BS l)[i]? = l[i]? := by
  by_cases h : i < (BS l).size
  · rw [Go.ByteArray.getElem?_lt' _ _ h, ByteArray.getElem_eq_getElem_data, List.getElem?_eq_getElem (by rwa [BS_size] at h)]
    simp [BS]
  · rw [Go.ByteArray.getElem?_ge' _ _ h, List.getElem?_eq_none (by rw [BS_size] at h; omega)]
theorem BS_inj {a b : Bytes} (h : BS a = BS b) : a = b := by
  have := congrArg (fun x : ByteArray => x.data.toList) h
  simpa [BS] using this
theorem BS_extract (l : Bytes) (i j : Nat) : (BS l).extract i j = BS ((l.take j).drop i) := by
  apply ByteArray.ext
  simp [BS, List.drop_take]
theorem BS_of (s : ByteArray) : s = BS s.data.toList := by
  apply ByteArray.ext
  simp [BS]

/-! ## 4. Operations that leave memory alone -/
section
variable {P : Program} {N : Nat} {Q : Exit → Act → World → Prop} {env : Env} {w w' : World} {ops : Array Oper} {rest : List Oper}
  {d : Nat} {t : TypeId} {pos : String} {af : Array Edge}

theorem r_val {o : Oper} {v : Value} (hd : o.dst = some d) (hg : o.guard = none) (hN : Nat.blt d N = true)
    (hx : ∀ a, Rel N env a → (execOp a.eval o).run P w = .ok (.value v) w') (h : rwp P N ops Q rest ((d, v) :: env) w') : rwp P N ops Q (o :: rest) env w := by
  intro a ha
  refine wpList_plain hg fun K hK => ?_
  unfold Oper.wp
  rw [hx a ha]
  simp only [Oper.upon, hd]
  exact hK _ _ (h _ (ha.put hN))
theorem r_unit {o : Oper} (hd : o.dst = none) (hg : o.guard = none)
    (hx : ∀ a, Rel N env a → (execOp a.eval o).run P w = .ok .skip w') (h : rwp P N ops Q rest env w') : rwp P N ops Q (o :: rest) env w := by
  intro a ha
  refine wpList_plain hg fun K hK => ?_
  unfold Oper.wp
  rw [hx a ha]
  simp only [Oper.upon, hd]
  exact hK _ _ (h _ ha)

theorem yielded_bool {a : Act} (ha : Rel N env a) {g e : Nat} {b : Bool} (hd : (ops[g]?).bind (·.dst) = some e) (hv : env.get e = some (.bool b)) : yielded ops a.tmps g = some b := by
  have := ha.val e _ hv
  simp only [yielded, hd]
  rw [Array.getD_eq_getD_getElem?] at this
  cases hc : a.tmps[e]? with
  | none => rw [hc] at this; simp [undef] at this
  | some x => rw [hc] at this; simp at this; subst this; simp [hc]
theorem yielded_undef {a : Act} (ha : Rel N env a) {g e : Nat} (hd : (ops[g]?).bind (·.dst) = some e) (hv : env.get e = some undef) : yielded ops a.tmps g = none := by
  have := ha.val e _ hv
  simp only [yielded, hd]
  rw [Array.getD_eq_getD_getElem?] at this
  cases hc : a.tmps[e]? with
  | none => simp [hc]
  | some x => rw [hc] at this; simp at this; subst this; simp [hc, undef]
/-- a guard that lets the operation run -/
theorem r_run {o : Op} {dst : Option Tmp} {g e : Nat} {b : Bool} (hd : (ops[g]?).bind (·.dst) = some e) (hv : env.get e = some (.bool b))
    (h : rwp P N ops Q (⟨dst, o, t, pos, af, none⟩ :: rest) env w) : rwp P N ops Q (⟨dst, o, t, pos, af, some (g, b)⟩ :: rest) env w := by
  intro a ha
  have hy : yielded ops a.tmps g = some b := by
    exact yielded_bool ha hd hv
  have := h a ha
  unfold wpList at this ⊢
  simp only [Region.wanted, hy, beq_self_eq_true, if_true] at this ⊢
  exact this
/-- a guard that skips it -/
theorem r_skip {o : Op} {g e : Nat} {b c : Bool} (hd : (ops[g]?).bind (·.dst) = some e) (hv : env.get e = some (.bool c)) (hb : (c == b) = false) (hN : Nat.blt d N = true)
    (h : rwp P N ops Q rest ((d, undef) :: env) w) : rwp P N ops Q (⟨some d, o, t, pos, af, some (g, b)⟩ :: rest) env w := by
  intro a ha
  have hy : yielded ops a.tmps g = some c := by
    exact yielded_bool ha hd hv
  refine wpList_skip ?_ (h _ (ha.put hN))
  simp only [Region.wanted, hy]
  cases b <;> cases c <;> simp_all
theorem r_skip_undef {o : Op} {g e : Nat} {b : Bool} (hd : (ops[g]?).bind (·.dst) = some e) (hv : env.get e = some undef) (hN : Nat.blt d N = true)
    (h : rwp P N ops Q rest ((d, undef) :: env) w) : rwp P N ops Q (⟨some d, o, t, pos, af, some (g, b)⟩ :: rest) env w := by
  intro a ha
  have hy : yielded ops a.tmps g = none := by
    exact yielded_undef ha hd hv
  refine wpList_skip ?_ (h _ (ha.put hN))
  simp [Region.wanted, hy]

theorem r_move {x : Operand} {v : Value} (hN : Nat.blt d N = true) (hx : ev env x = some v) (h : rwp P N ops Q rest ((d, v) :: env) w) : rwp P N ops Q (⟨some d, .move x, t, pos, af, none⟩ :: rest) env w :=
  r_val rfl rfl hN (fun a ha => by simp [execOp, ha.eval hx]) h
theorem r_assign {x : Operand} {v : Value} (hN : Nat.blt d N = true) (hx : ev env x = some v) (h : rwp P N ops Q rest ((d, v) :: env) w) : rwp P N ops Q (⟨some d, .assign x, t, pos, af, none⟩ :: rest) env w :=
  r_val rfl rfl hN (fun a ha => by simp [execOp, ha.eval hx]) h
theorem r_pick {c x y : Operand} {b : Bool} {v : Value} (hN : Nat.blt d N = true) (hc : ev env c = some (.bool b)) (hv : (bif b then ev env x else ev env y) = some v) (h : rwp P N ops Q rest ((d, v) :: env) w) :
    rwp P N ops Q (⟨some d, .pick c x y, t, pos, af, none⟩ :: rest) env w :=
  r_val rfl rfl hN (fun a ha => by cases b <;> simp_all [execOp, ha.eval hc, asBool] <;> exact ha.eval hv) h
theorem r_nilCheck {x : Operand} {p : Addr} (hN : Nat.blt d N = true) (hx : ev env x = some (.pointer (some p))) (h : rwp P N ops Q rest ((d, .pointer (some p)) :: env) w) : rwp P N ops Q (⟨some d, .nilCheck x, t, pos, af, none⟩ :: rest) env w :=
  r_val rfl rfl hN (fun a ha => by simp [execOp, ha.eval hx]) h
theorem r_extract {x : Operand} {vs : Array Value} {i : Nat} {v : Value} (hN : Nat.blt d N = true) (hx : ev env x = some (.tuple vs)) (hv : vs[i]? = some v) (h : rwp P N ops Q rest ((d, v) :: env) w) : rwp P N ops Q (⟨some d, .extract x i, t, pos, af, none⟩ :: rest) env w :=
  r_val rfl rfl hN (fun a ha => by simp [execOp, ha.eval hx, Instr.extract, hv]) h
theorem r_makeFunc {fn : Fn} {cap : List Operand} {vs : List Value} (hN : Nat.blt d N = true) (hx : cap.map (ev env) = vs.map some) (h : rwp P N ops Q rest ((d, .func fn #[] vs.toArray) :: env) w) : rwp P N ops Q (⟨some d, .makeFunc fn #[] cap.toArray, t, pos, af, none⟩ :: rest) env w :=
  r_val rfl rfl hN (fun a ha => by
    have : cap.map a.eval = vs := by
      clear h
      induction cap generalizing vs with
      | nil => cases vs <;> simp_all
      | cons c r ih =>
        cases vs with
        | nil => simp at hx
        | cons v vs =>
          simp only [List.map_cons, List.cons.injEq] at hx
          simp [ha.eval hx.1, ih hx.2]
    simp [execOp, Instr.makeFunc, this]) h

/-! integers -/
theorem r_bin {op : BinOp} {x y : Operand} {xt yt : TypeId} {u v z : Value} (hN : Nat.blt d N = true) (hx : ev env x = some u) (hy : ev env y = some v)
    (hg : (eqGuard op xt x y u v).run P w = .ok () w) (hr : (binOp op xt u v).run P w = .ok z w)
    (h : rwp P N ops Q rest ((d, z) :: env) w) : rwp P N ops Q (⟨some d, .binOp op xt x y yt, t, pos, af, none⟩ :: rest) env w :=
  r_val rfl rfl hN (fun a ha => by simp [execOp, ha.eval hx, ha.eval hy, hg, hr]) h
def ibits (op : BinOp) (k : IntKind) (a b : Int) : Int :=
  match op with
  | .and => k.wrap (BitVec.ofInt k.bits a &&& BitVec.ofInt k.bits b).toNat
  | .or => k.wrap (BitVec.ofInt k.bits a ||| BitVec.ofInt k.bits b).toNat
  | .xor => k.wrap (BitVec.ofInt k.bits a ^^^ BitVec.ofInt k.bits b).toNat
  | _ => k.wrap (BitVec.ofInt k.bits a &&& ~~~BitVec.ofInt k.bits b).toNat
/-- what an operation on two integers of one kind gives (no division, no shift) -/
def iop (op : BinOp) (k : IntKind) (a b : Int) : Option Value :=
  match op with
  | .add => some (.int k (k.wrap (a + b)))
  | .sub => some (.int k (k.wrap (a - b)))
  | .mul => some (.int k (k.wrap (a * b)))
  | .and => some (.int k (ibits .and k a b))
  | .or => some (.int k (ibits .or k a b))
  | .xor => some (.int k (ibits .xor k a b))
  | .andNot => some (.int k (ibits .andNot k a b))
  | .eql => some (.bool (a == b))
  | .neq => some (.bool (a != b))
  | .lss => some (.bool (decide (a < b)))
  | .leq => some (.bool (decide (a ≤ b)))
  | .gtr => some (.bool (decide (a > b)))
  | .geq => some (.bool (decide (a ≥ b)))
  | _ => none
theorem eqGuard_int {op : BinOp} {xt : TypeId} {x y : Operand} {k : IntKind} {a : Int} {v : Value} : (eqGuard op xt x y (.int k a) v).run P w = .ok () w := by
  cases op <;> simp [eqGuard]
theorem iop_run {op : BinOp} {xt : TypeId} {k : IntKind} {a b : Int} {z : Value} (hz : iop op k a b = some z) : (binOp op xt (.int k a) (.int k b)).run P w = .ok z w := by
  cases op <;> simp only [iop, Option.some.injEq, reduceCtorEq] at hz <;> subst hz <;> simp [binOp, Op.intArith, Op.intBits, Op.intCmp, ibits]
theorem r_int {op : BinOp} {x y : Operand} {xt yt : TypeId} {k : IntKind} {a b : Int} {z : Value} (hN : Nat.blt d N = true) (hx : ev env x = some (.int k a)) (hy : ev env y = some (.int k b))
    (hz : iop op k a b = some z) (h : rwp P N ops Q rest ((d, z) :: env) w) : rwp P N ops Q (⟨some d, .binOp op xt x y yt, t, pos, af, none⟩ :: rest) env w :=
  r_bin hN hx hy eqGuard_int (iop_run hz) h
theorem r_quo {x y : Operand} {xt yt : TypeId} {k : IntKind} {a b : Int} (hN : Nat.blt d N = true) (hx : ev env x = some (.int k a)) (hy : ev env y = some (.int k b)) (hb : (b == 0) = false)
    (h : rwp P N ops Q rest ((d, .int k (k.wrap (a.tdiv b))) :: env) w) : rwp P N ops Q (⟨some d, .binOp .quo xt x y yt, t, pos, af, none⟩ :: rest) env w :=
  r_bin hN hx hy eqGuard_int (by have : b ≠ 0 := by simpa using hb
                                 simp [binOp, Op.intDiv, this]) h
theorem r_rem {x y : Operand} {xt yt : TypeId} {k : IntKind} {a b : Int} (hN : Nat.blt d N = true) (hx : ev env x = some (.int k a)) (hy : ev env y = some (.int k b)) (hb : (b == 0) = false)
    (h : rwp P N ops Q rest ((d, .int k (a.tmod b)) :: env) w) : rwp P N ops Q (⟨some d, .binOp .rem xt x y yt, t, pos, af, none⟩ :: rest) env w :=
  r_bin hN hx hy eqGuard_int (by have : b ≠ 0 := by simpa using hb
                                 simp [binOp, Op.intDiv, this]) h
def ishl (k : IntKind) (a b : Int) : Int := k.wrap (a * 2 ^ (min b.toNat k.bits))
def ishr (k : IntKind) (a b : Int) : Int := a.fdiv (2 ^ (min b.toNat k.bits))
theorem r_shl {x y : Operand} {xt yt : TypeId} {k j : IntKind} {a b : Int} (hN : Nat.blt d N = true) (hx : ev env x = some (.int k a)) (hy : ev env y = some (.int j b)) (hb : decide (b < 0) = false)
    (h : rwp P N ops Q rest ((d, .int k (ishl k a b)) :: env) w) : rwp P N ops Q (⟨some d, .binOp .shl xt x y yt, t, pos, af, none⟩ :: rest) env w :=
  r_bin hN hx hy eqGuard_int (by have : ¬ b < 0 := by simpa using hb
                                 simp [binOp, Op.shift, this, ishl]) h
theorem r_shr {x y : Operand} {xt yt : TypeId} {k j : IntKind} {a b : Int} (hN : Nat.blt d N = true) (hx : ev env x = some (.int k a)) (hy : ev env y = some (.int j b)) (hb : decide (b < 0) = false)
    (h : rwp P N ops Q rest ((d, .int k (ishr k a b)) :: env) w) : rwp P N ops Q (⟨some d, .binOp .shr xt x y yt, t, pos, af, none⟩ :: rest) env w :=
  r_bin hN hx hy eqGuard_int (by have : ¬ b < 0 := by simpa using hb
                                 simp [binOp, Op.shift, this, ishr]) h
theorem r_not {x : Operand} {xt : TypeId} {b : Bool} (hN : Nat.blt d N = true) (hx : ev env x = some (.bool b)) (h : rwp P N ops Q rest ((d, .bool (!b)) :: env) w) : rwp P N ops Q (⟨some d, .unOp .not xt x, t, pos, af, none⟩ :: rest) env w :=
  r_val rfl rfl hN (fun a ha => by simp [execOp, ha.eval hx, Op.unary]) h
theorem r_neg {x : Operand} {xt : TypeId} {k : IntKind} {n : Int} (hN : Nat.blt d N = true) (hx : ev env x = some (.int k n)) (h : rwp P N ops Q rest ((d, .int k (k.wrap (0 - n))) :: env) w) : rwp P N ops Q (⟨some d, .unOp .neg xt x, t, pos, af, none⟩ :: rest) env w :=
  r_val rfl rfl hN (fun a ha => by simp [execOp, ha.eval hx, Op.unary, Op.intArith]) h
theorem r_conv_int {x : Operand} {s t' : TypeId} {j k : IntKind} {n : Int} (hs : ∃ u, P.underlying s = some u) (hk : P.underlying t' = some (.int k)) (hN : Nat.blt d N = true) (hx : ev env x = some (.int j n)) (h : rwp P N ops Q rest ((d, .int k (k.wrap n)) :: env) w) :
    rwp P N ops Q (⟨some d, .convert s t' x, t, pos, af, none⟩ :: rest) env w :=
  r_val rfl rfl hN (fun a ha => by obtain ⟨u, hu⟩ := hs; simp [execOp, ha.eval hx, convert, run_underlying hu, run_underlying hk, Conv.intToInt]) h
/-! bools, strings -/
theorem run_equal_bool {xt : TypeId} {a b : Bool} (ht : P.underlying xt = some .bool) : (Op.equal xt (.bool a) (.bool b)).run P w = .ok (a == b) w := by
  have h : ∀ n, (Op.equalIn (n + 1) xt (.bool a) (.bool b)).run P w = .ok (a == b) w := fun n => by
    rw [Op.equalIn]; simp [run_underlying ht]
  exact h 9999
theorem run_beq {xt : TypeId} {a b : Bool} (ht : P.underlying xt = some .bool) : (binOp .eql xt (.bool a) (.bool b)).run P w = .ok (.bool (a == b)) w := by
  simp only [binOp]; simp [run_equal_bool ht]
theorem run_bne {xt : TypeId} {a b : Bool} (ht : P.underlying xt = some .bool) : (binOp .neq xt (.bool a) (.bool b)).run P w = .ok (.bool (a != b)) w := by
  simp only [binOp]; simp [run_equal_bool ht, bne]
theorem r_beq {x y : Operand} {xt yt : TypeId} {a b : Bool} (ht : P.underlying xt = some .bool) (hN : Nat.blt d N = true) (hx : ev env x = some (.bool a)) (hy : ev env y = some (.bool b)) (h : rwp P N ops Q rest ((d, .bool (a == b)) :: env) w) : rwp P N ops Q (⟨some d, .binOp .eql xt x y yt, t, pos, af, none⟩ :: rest) env w :=
  r_bin hN hx hy (by simp [eqGuard]) (run_beq ht) h
theorem r_bne {x y : Operand} {xt yt : TypeId} {a b : Bool} (ht : P.underlying xt = some .bool) (hN : Nat.blt d N = true) (hx : ev env x = some (.bool a)) (hy : ev env y = some (.bool b)) (h : rwp P N ops Q rest ((d, .bool (a != b)) :: env) w) : rwp P N ops Q (⟨some d, .binOp .neq xt x y yt, t, pos, af, none⟩ :: rest) env w :=
  r_bin hN hx hy (by simp [eqGuard]) (run_bne ht) h
theorem r_seq {x y : Operand} {xt yt : TypeId} {a b : Bytes} (hN : Nat.blt d N = true) (hx : ev env x = some (.string (BS a))) (hy : ev env y = some (.string (BS b))) (h : rwp P N ops Q rest ((d, .bool (a == b)) :: env) w) : rwp P N ops Q (⟨some d, .binOp .eql xt x y yt, t, pos, af, none⟩ :: rest) env w :=
  r_bin hN hx hy (by simp [eqGuard]) (by simp [binOp, Op.stringOp, BS_toList]) h
theorem r_sne {x y : Operand} {xt yt : TypeId} {a b : Bytes} (hN : Nat.blt d N = true) (hx : ev env x = some (.string (BS a))) (hy : ev env y = some (.string (BS b))) (h : rwp P N ops Q rest ((d, .bool (a != b)) :: env) w) : rwp P N ops Q (⟨some d, .binOp .neq xt x y yt, t, pos, af, none⟩ :: rest) env w :=
  r_bin hN hx hy (by simp [eqGuard]) (by simp [binOp, Op.stringOp, BS_toList, bne]) h
theorem r_sadd {x y : Operand} {xt yt : TypeId} {a b : Bytes} (hN : Nat.blt d N = true) (hx : ev env x = some (.string (BS a))) (hy : ev env y = some (.string (BS b))) (hl : decide (a.length + b.length ≤ 4611686018427387904) = true) (h : rwp P N ops Q rest ((d, .string (BS (a ++ b))) :: env) w) : rwp P N ops Q (⟨some d, .binOp .add xt x y yt, t, pos, af, none⟩ :: rest) env w :=
  r_bin hN hx hy (by simp [eqGuard]) (by
    have hl' : a.length + b.length ≤ 4611686018427387904 := by simpa using hl
    have h2 : ¬ IntKind.i64.max < ((a.length : Int) + (b.length : Int)) := by
      have : IntKind.i64.max = 9223372036854775807 := by decide
      rw [this]; omega
    simp only [binOp, Op.stringOp, BS_size, BS_app]
    rw [if_neg (by simpa using h2)]
    rfl) h
theorem r_sidx {x y : Operand} {xt : TypeId} {k : IntKind} {a : Bytes} {i : Int} {c : UInt8} (ht : P.underlying xt = some .string) (hN : Nat.blt d N = true) (hx : ev env x = some (.string (BS a))) (hy : ev env y = some (.int k i)) (h0 : 0 ≤ i) (hc : a[i.toNat]? = some c) (h : rwp P N ops Q rest ((d, .int .u8 c.toNat) :: env) w) :
    rwp P N ops Q (⟨some d, .index xt x y, t, pos, af, none⟩ :: rest) env w :=
  r_val rfl rfl hN (fun _ ha => by simp [execOp, ha.eval hx, ha.eval hy, Instr.index, asIntOf, run_underlying ht, h0, BS_get, hc]) h
theorem r_slen {x : Operand} {xt : TypeId} {a : Bytes} (ht : P.underlying xt = some .string) (hN : Nat.blt d N = true) (hx : ev env x = some (.string (BS a))) (h : rwp P N ops Q rest ((d, .int .i64 a.length) :: env) w) :
    rwp P N ops Q (⟨some d, .call { callee := .builtin .len, args := #[x], argTypes := #[xt] }, t, pos, af, none⟩ :: rest) env w :=
  r_val rfl rfl hN (fun _ ha => by simp [execOp, ha.eval hx, resolve, invoke, builtin, Builtin.len_, run_underlying ht, BS_size, goInt]) h
theorem r_len {x : Operand} {xt e : TypeId} {p : Option Addr} {n c : Nat} (ht : P.underlying xt = some (.slice e)) (hN : Nat.blt d N = true) (hx : ev env x = some (.slice p n c)) (h : rwp P N ops Q rest ((d, .int .i64 n) :: env) w) :
    rwp P N ops Q (⟨some d, .call { callee := .builtin .len, args := #[x], argTypes := #[xt] }, t, pos, af, none⟩ :: rest) env w :=
  r_val rfl rfl hN (fun _ ha => by simp [execOp, ha.eval hx, resolve, invoke, builtin, Builtin.len_, run_underlying ht, goInt]) h
end
end Go.GL

namespace Go.GL
open Go Go.RowKit

/-! ## 5. Assertions on memory that the call owns -/
structure HP where
  holds : World → List Nat → Prop
  keep : ∀ {w w' : World} {fp : List Nat}, (∀ b ∈ fp, w'.heap[b]? = w.heap[b]?) → holds w fp → holds w' fp

def SepL (w : World) : List HP → List Nat → Prop
  | [], fp => fp = []
  | A :: r, fp => ∃ f g, A.holds w f ∧ SepL w r g ∧ fp = f ++ g

theorem SepL.keep {w w' : World} {As : List HP} : ∀ {fp : List Nat}, (∀ b ∈ fp, w'.heap[b]? = w.heap[b]?) → SepL w As fp → SepL w' As fp := by
  induction As with
  | nil => intro fp _ h; exact h
  | cons A r ih =>
    rintro fp hk ⟨f, g, hA, hr, rfl⟩
    exact ⟨f, g, A.keep (fun b hb => hk b (List.mem_append_left _ hb)) hA, ih (fun b hb => hk b (List.mem_append_right _ hb)) hr, rfl⟩
theorem SepL.app {w : World} {As Bs : List HP} {f g : List Nat} (h1 : SepL w As f) (h2 : SepL w Bs g) : SepL w (As ++ Bs) (f ++ g) := by
  induction As generalizing f with
  | nil => cases h1; exact h2
  | cons A r ih =>
    obtain ⟨f1, f2, hA, hr, rfl⟩ := h1
    exact ⟨f1, f2 ++ g, hA, ih hr, by simp⟩
theorem SepL.split {w : World} {As : List HP} {k : Nat} {A : HP} : ∀ {fp : List Nat}, As[k]? = some A → SepL w As fp →
    ∃ f1 f f2, fp = f1 ++ f ++ f2 ∧ A.holds w f ∧ SepL w (As.eraseIdx k) (f1 ++ f2) ∧
      ∀ (w' : World) (A' : HP) (f' : List Nat), (∀ b ∈ f1 ++ f2, w'.heap[b]? = w.heap[b]?) → A'.holds w' f' → SepL w' (As.set k A') (f1 ++ f' ++ f2) := by
  induction As generalizing k with
  | nil => intro fp hk; cases hk
  | cons B r ih =>
    rintro fp hk ⟨f, g, hB, hr, rfl⟩
    cases k with
    | zero =>
      simp only [List.getElem?_cons_zero, Option.some.injEq] at hk
      subst hk
      refine ⟨[], f, g, by simp, hB, by simpa using hr, fun w' A' f' hkeep hA' => ?_⟩
      exact ⟨f', g, hA', hr.keep (fun b hb => hkeep b (by simpa using hb)), by simp⟩
    | succ k =>
      simp only [List.getElem?_cons_succ] at hk
      obtain ⟨f1, f0, f2, rfl, hA, hrest, hupd⟩ := ih hk hr
      refine ⟨f ++ f1, f0, f2, by simp, hA, ⟨f, f1 ++ f2, hB, hrest, by simp⟩, fun w' A' f' hkeep hA' => ?_⟩
      exact ⟨f, f1 ++ f' ++ f2, B.keep (fun b hb => hkeep b (by simp [hb])) hB, hupd w' A' f' (fun b hb => hkeep b (by rcases List.mem_append.1 hb with h | h <;> simp [h])) hA', by simp⟩

structure St (w0 : World) (L : List Nat) (w : World) (As : List HP) : Prop where
  os : w.os = w0.os
  tape : w.tape = w0.tape
  output : w.output = w0.output
  size : w0.heap.size ≤ w.heap.size
  block : ∀ b, b < w0.heap.size → b ∉ L → w.heap[b]? = w0.heap[b]?
  sep : ∃ fp, SepL w As fp ∧ fp.Nodup ∧ ∀ b ∈ fp, (b ∈ L ∨ w0.heap.size ≤ b) ∧ b < w.heap.size

section
variable {w0 w w' : World} {L : List Nat} {As Bs : List HP}
theorem St.start (w : World) : St w [] w [] := ⟨rfl, rfl, rfl, Nat.le_refl _, fun _ _ _ => rfl, [], rfl, List.nodup_nil, fun b hb => by cases hb⟩
theorem St.lent {A : HP} {fp : List Nat} (hA : A.holds w fp) (hn : fp.Nodup) (hb : ∀ b ∈ fp, b < w.heap.size) : St w fp w [A] :=
  ⟨rfl, rfl, rfl, Nat.le_refl _, fun _ _ _ => rfl, fp, ⟨fp, [], hA, rfl, by simp⟩, hn, fun b h => ⟨.inl h, hb b h⟩⟩
theorem St.below (h : St w0 [] w As) : Below w0.heap.size w0 w := ⟨h.os, h.tape, h.output, h.size, fun b hb => h.block b hb (by simp)⟩
/-- growth: what the call has made anew comes in -/
theorem St.ext (h : St w0 L w As) (hx : St w [] w' Bs) : St w0 L w' (As ++ Bs) := by
  obtain ⟨fp, hs, hn, hb⟩ := h.sep
  obtain ⟨g, hs', hn', hb'⟩ := hx.sep
  refine ⟨hx.os.trans h.os, hx.tape.trans h.tape, hx.output.trans h.output, Nat.le_trans h.size hx.size, fun b hb hl => (hx.block b (Nat.lt_of_lt_of_le hb h.size) (by simp)).trans (h.block b hb hl),
    fp ++ g, (hs.keep fun b hf => hx.block b (hb b hf).2 (by simp)).app hs', ?_, ?_⟩
  · rw [List.nodup_append]
    refine ⟨hn, hn', fun a ha b hb2 e => ?_⟩
    subst e
    have h1 := (hb a ha).2
    rcases (hb' a hb2).1 with h2 | h2
    · cases h2
    · omega
  · intro b hbm
    rcases List.mem_append.1 hbm with h1 | h1
    · exact ⟨(hb b h1).1, Nat.lt_of_lt_of_le (hb b h1).2 hx.size⟩
    · refine ⟨.inr ?_, (hb' b h1).2⟩
      rcases (hb' b h1).1 with h2 | h2
      · cases h2
      · have := h.size; omega
theorem St.grow (h : St w0 L w As) (hx : Below w.heap.size w w') : St w0 L w' As := by
  have := h.ext (Bs := []) ⟨hx.os, hx.tape, hx.output, hx.size, fun b hb _ => hx.block b hb, [], rfl, List.nodup_nil, fun b hb => by cases hb⟩
  simpa using this
/-- one assertion is changed in place -/
theorem St.upd {k : Nat} {A A' : HP} (h : St w0 L w As) (hk : As[k]? = some A) (hos : w'.os = w.os) (htape : w'.tape = w.tape) (hout : w'.output = w.output) (hsz : w.heap.size ≤ w'.heap.size)
    (hA : ∀ fp, A.holds w fp → fp.Nodup → (∀ b ∈ fp, b < w.heap.size) → ∃ fp', A'.holds w' fp' ∧ fp'.Nodup ∧ (∀ b ∈ fp', b ∈ fp ∨ (w.heap.size ≤ b ∧ b < w'.heap.size)) ∧
      (∀ b, b < w.heap.size → b ∉ fp → w'.heap[b]? = w.heap[b]?)) : St w0 L w' (As.set k A') := by
  obtain ⟨fp, hs, hn, hb⟩ := h.sep
  obtain ⟨f1, f, f2, rfl, hAh, -, hupd⟩ := hs.split hk
  have hnf : f.Nodup := (List.nodup_append.1 (List.nodup_append.1 hn).1).2.1
  have hbf : ∀ b ∈ f, b < w.heap.size := fun b hf => (hb b (by simp [hf])).2
  obtain ⟨f', hA', hn', hin, hout'⟩ := hA f hAh hnf hbf
  have hnotin : ∀ b ∈ f1 ++ f2, b ∉ f := by
    intro b hb12 hbf'
    rw [List.nodup_append] at hn
    obtain ⟨h12, _, hd2⟩ := hn
    rw [List.nodup_append] at h12
    obtain ⟨_, _, hd1⟩ := h12
    rcases List.mem_append.1 hb12 with h1 | h1
    · exact hd1 b h1 b hbf' rfl
    · exact hd2 b (by simp [hbf']) b h1 rfl
  have hlt : ∀ b ∈ f1 ++ f2, b < w.heap.size := fun b hb12 => (hb b (by rcases List.mem_append.1 hb12 with h | h <;> simp [h])).2
  have hkeep : ∀ b ∈ f1 ++ f2, w'.heap[b]? = w.heap[b]? := fun b hb12 => hout' b (hlt b hb12) (hnotin b hb12)
  refine ⟨hos.trans h.os, htape.trans h.tape, hout.trans h.output, Nat.le_trans h.size hsz, fun b hb0 hl => ?_, f1 ++ f' ++ f2, hupd w' A' f' hkeep hA', ?_, ?_⟩
  · have hlt0 : b < w.heap.size := Nat.lt_of_lt_of_le hb0 h.size
    refine (hout' b hlt0 (fun hbf' => ?_)).trans (h.block b hb0 hl)
    rcases (hb b (by simp [hbf'])).1 with h1 | h1
    · exact hl h1
    · omega
  · have hd : ∀ b ∈ f', b ∉ f1 ++ f2 := by
      intro b hbf' hb12
      rcases hin b hbf' with h1 | ⟨h1, _⟩
      · exact hnotin b hb12 h1
      · have := hlt b hb12; omega
    rw [List.nodup_append] at hn ⊢
    obtain ⟨h12, hn2, hd2⟩ := hn
    rw [List.nodup_append] at h12
    refine ⟨List.nodup_append.2 ⟨h12.1, hn', fun a ha b hb' e => hd b hb' (by subst e; simp [ha])⟩, hn2, fun a ha b hb' e => ?_⟩
    subst e
    rcases List.mem_append.1 ha with h1 | h1
    · exact hd2 a (by simp [h1]) a hb' rfl
    · exact hd a h1 (by simp [hb'])
  · intro b hbm
    have h3 : b ∈ f' ∨ b ∈ f1 ++ f2 := by
      rcases List.mem_append.1 hbm with h | h
      · rcases List.mem_append.1 h with h | h
        · exact .inr (by simp [h])
        · exact .inl h
      · exact .inr (by simp [h])
    rcases h3 with h1 | h1
    · rcases hin b h1 with h2 | ⟨h2, h4⟩
      · exact ⟨(hb b (by simp [h2])).1, Nat.lt_of_lt_of_le (hbf b h2) hsz⟩
      · exact ⟨.inr (Nat.le_trans h.size h2), h4⟩
    · exact ⟨(hb b (by rcases List.mem_append.1 h1 with h | h <;> simp [h])).1, Nat.lt_of_lt_of_le (hlt b h1) hsz⟩
/-- the k-th comes to the front -/
theorem St.front {A : HP} (h : St w0 L w As) (k : Nat) (hk : As[k]? = some A) : St w0 L w (A :: As.eraseIdx k) := by
  obtain ⟨fp, hs, hn, hb⟩ := h.sep
  obtain ⟨f1, f, f2, rfl, hAh, hr, -⟩ := hs.split hk
  have hp : (f1 ++ f ++ f2).Perm (f ++ (f1 ++ f2)) := by
    rw [← List.append_assoc]
    exact List.Perm.append_right _ List.perm_append_comm
  exact ⟨h.os, h.tape, h.output, h.size, h.block, f ++ (f1 ++ f2), ⟨f, f1 ++ f2, hAh, hr, rfl⟩, hp.nodup_iff.1 hn, fun b hbm => hb b (hp.mem_iff.2 hbm)⟩
theorem St.drop {A : HP} (h : St w0 L w (A :: As)) : St w0 L w As := by
  obtain ⟨fp, ⟨f, g, _, hs, rfl⟩, hn, hb⟩ := h.sep
  exact ⟨h.os, h.tape, h.output, h.size, h.block, g, hs, (List.nodup_append.1 hn).2.1, fun b hbm => hb b (List.mem_append_right _ hbm)⟩
theorem St.del (h : St w0 L w As) (k : Nat) : St w0 L w (As.eraseIdx k) := by
  cases hk : As[k]? with
  | none => rw [List.eraseIdx_of_length_le (List.getElem?_eq_none_iff.1 hk)]; exact h
  | some A => exact (h.front k hk).drop
theorem St.map {A A' : HP} (h : St w0 L w (A :: As)) (hm : ∀ fp, A.holds w fp → A'.holds w fp) : St w0 L w (A' :: As) := by
  obtain ⟨fp, ⟨f, g, hA, hs, rfl⟩, hn, hb⟩ := h.sep
  exact ⟨h.os, h.tape, h.output, h.size, h.block, f ++ g, ⟨f, g, hm f hA, hs, rfl⟩, hn, hb⟩
/-- two at the front become one -/
theorem St.join {A B C : HP} (h : St w0 L w (A :: B :: As)) (hm : ∀ f g, A.holds w f → B.holds w g → ∃ fp, C.holds w fp ∧ fp.Perm (f ++ g)) : St w0 L w (C :: As) := by
  obtain ⟨fp, ⟨f, g, hA, ⟨f2, g2, hB, hs, rfl⟩, rfl⟩, hn, hb⟩ := h.sep
  obtain ⟨f3, hC, hp⟩ := hm f f2 hA hB
  have hp' : (f3 ++ g2).Perm (f ++ (f2 ++ g2)) := by rw [← List.append_assoc]; exact hp.append_right _
  exact ⟨h.os, h.tape, h.output, h.size, h.block, f3 ++ g2, ⟨f3, g2, hC, hs, rfl⟩, hp'.nodup_iff.2 hn, fun b hbm => hb b (hp'.mem_iff.1 hbm)⟩
/-- one at the front becomes two -/
theorem St.part {A B C : HP} (h : St w0 L w (C :: As)) (hm : ∀ fp, C.holds w fp → ∃ f g, A.holds w f ∧ B.holds w g ∧ fp.Perm (f ++ g)) : St w0 L w (A :: B :: As) := by
  obtain ⟨fp, ⟨f, g, hC, hs, rfl⟩, hn, hb⟩ := h.sep
  obtain ⟨f2, f3, hA, hB, hp⟩ := hm f hC
  have hp' : (f ++ g).Perm (f2 ++ (f3 ++ g)) := by rw [← List.append_assoc]; exact hp.append_right _
  exact ⟨h.os, h.tape, h.output, h.size, h.block, f2 ++ (f3 ++ g), ⟨f2, f3 ++ g, hA, ⟨f3, g, hB, hs, rfl⟩, rfl⟩, hp'.nodup_iff.1 hn, fun b hbm => hb b (hp'.mem_iff.2 hbm)⟩
theorem St.get {A : HP} {k : Nat} (h : St w0 L w As) (hk : As[k]? = some A) : ∃ fp, A.holds w fp ∧ ∀ b ∈ fp, b < w.heap.size := by
  obtain ⟨fp, hs, hn, hb⟩ := h.sep
  obtain ⟨f1, f, f2, rfl, hAh, -, -⟩ := hs.split hk
  exact ⟨f, hAh, fun b hf => (hb b (by simp [hf])).2⟩
end
end Go.GL

namespace Go.GL
open Go Go.RowKit

/-! ## 6. Types -/
def aggD : TypeDesc → Bool
  | .struct _ | .array _ _ => true
  | _ => false
def tiB (P : Program) (t : TypeId) (size : Nat) (agg : Bool) : Bool :=
  match P.info? t, P.underlying t with
  | some i, some u => i.size == size && aggD u == agg
  | _, _ => false
theorem tiB_spec {P : Program} {t : TypeId} {size : Nat} {agg : Bool} (h : tiB P t size agg = true) :
    ∃ i u, P.info? t = some i ∧ i.size = size ∧ P.underlying t = some u ∧ aggD u = agg := by
  unfold tiB at h
  cases hi : P.info? t with
  | none => simp [hi] at h
  | some i =>
    cases hu : P.underlying t with
    | none => simp [hi, hu] at h
    | some u =>
      simp [hi, hu] at h
      exact ⟨i, u, rfl, h.1, rfl, h.2⟩
def toVal (agg : Bool) (cs : List Value) : Value :=
  match agg, cs with
  | false, [v] => v
  | _, cs => .agg cs.toArray

section
variable {P : Program} {w : World}
theorem run_isAgg {t : TypeId} {u : TypeDesc} (h : P.underlying t = some u) : (isAgg t).run P w = .ok (aggD u) w := by
  simp [isAgg, run_underlying h]
  cases u <;> rfl
theorem run_sizeOf {t : TypeId} {i : TypeInfo} (h : P.info? t = some i) : (sizeOf t).run P w = .ok i.size w := by
  simp [sizeOf, typeInfo, h]
theorem run_loadAt {t : TypeId} {size : Nat} {agg : Bool} {p : Addr} {cs : List Value} (ht : tiB P t size agg = true) (h1 : agg = false → size = 1) (hl : cs.length = size)
    (hc : ∀ j u, cs[j]? = some u → w.cell? (p.add j) = some u) : (Instr.loadAt t (.pointer (some p))).run P w = .ok (toVal agg cs) w := by
  obtain ⟨i, u, hi, hs, hu, ha⟩ := tiB_spec ht
  cases agg with
  | true =>
    have := run_loadCells_list (P := P) (w := w) p cs hc
    rw [hl, ← hs] at this
    simp [Instr.loadAt, Instr.sureAddr, loadVar, run_isAgg hu, ha, run_sizeOf hi, this, toVal]
  | false =>
    rw [h1 rfl] at hl
    match cs, hl with
    | [v], _ =>
      have := hc 0 v rfl
      simp only [Addr.add, if_true] at this
      simp [Instr.loadAt, Instr.sureAddr, loadVar, run_isAgg hu, ha, toVal, this]
theorem run_fieldAt {s : TypeId} {fs : Array Field} {f : Nat} {fd : Field} {i : TypeInfo} {p : Addr} (hu : P.underlying s = some (.struct fs)) (hf : fs[f]? = some fd) (hi : P.info? fd.type = some i) (hsz : i.size ≠ 0) :
    (Instr.fieldAt s (.pointer (some p)) f).run P w = .ok (.pointer (some (p.add fd.offset))) w := by
  simp [Instr.fieldAt, run_underlying hu, hf, Instr.sureAddr, fieldPlace, run_sizeOf hi, hsz]
theorem run_indexAt {t e : TypeId} {p : Addr} {n c : Nat} {k : IntKind} {i : Int} {ie : TypeInfo} (hu : P.underlying t = some (.slice e)) (hi : P.info? e = some ie) (h0 : 0 ≤ i) (h1 : i < n) :
    (Instr.indexAt t (.slice (some p) n c) (.int k i)).run P w = .ok (.pointer (some (p.add (i.toNat * ie.size)))) w := by
  simp [Instr.indexAt, asIntOf, run_underlying hu, h0, h1, run_sizeOf hi]
end

/-- field f of struct type s lies at offset off -/
def fiB (P : Program) (s : TypeId) (f off : Nat) : Bool :=
  match P.underlying s with
  | some (.struct fs) => match fs[f]? with
    | some fd => fd.offset == off && (match P.info? fd.type with | some i => i.size != 0 | none => false)
    | none => false
  | _ => false
theorem fiB_spec {P : Program} {s : TypeId} {f off : Nat} (h : fiB P s f off = true) : ∃ fs fd i, P.underlying s = some (.struct fs) ∧ fs[f]? = some fd ∧ fd.offset = off ∧ P.info? fd.type = some i ∧ i.size ≠ 0 := by
  unfold fiB at h
  split at h
  · rename_i fs hu
    split at h
    · rename_i fd hf
      simp only [Bool.and_eq_true, beq_iff_eq] at h
      obtain ⟨h1, h2⟩ := h
      split at h2
      · rename_i i hi
        exact ⟨fs, fd, i, hu, hf, h1, hi, by simpa using h2⟩
      · cases h2
    · cases h
  · cases h
/-- t is the type of slices of e -/
def slB (P : Program) (t e : TypeId) : Bool :=
  match P.underlying t with
  | some (.slice e') => e' == e
  | _ => false
theorem slB_spec {P : Program} {t e : TypeId} (h : slB P t e = true) : P.underlying t = some (.slice e) := by
  unfold slB at h
  split at h
  · rename_i e' hu; rw [hu]; simp at h; rw [h]
  · cases h

/-! ## 7. Data -/
class GT (P : Program) (α : Type) where
  tid : TypeId
  size : Nat
  bytes : Nat
  agg : Bool
  zero : List Value
  z0 : α
  rd : World → Nat → List Value → α → Prop
  od : World → List Value → α → List Nat → Prop
  pos : 0 < size
  one : agg = false → size = 1
  ti : tiB P tid size agg = true
  info : (P.info? tid).map (fun i => (i.zero.map fun z => z.cells.toList, i.size, i.bytes)) = some (some zero, size, bytes)
  rd_len : ∀ {w B cs x}, rd w B cs x → cs.length = size
  rd_one : ∀ {w B cs x}, rd w B cs x → ∀ u ∈ cs, u.oneCell' = true
  rd_keep : ∀ {w w' B cs x}, Below B w w' → rd w B cs x → rd w' B cs x
  rd_more : ∀ {w B B' cs x}, B ≤ B' → rd w B cs x → rd w B' cs x
  od_len : ∀ {w cs x fp}, od w cs x fp → cs.length = size
  od_one : ∀ {w cs x fp}, od w cs x fp → ∀ u ∈ cs, u.oneCell' = true
  od_keep : ∀ {w w' cs x fp}, (∀ b ∈ fp, w'.heap[b]? = w.heap[b]?) → od w cs x fp → od w' cs x fp
  od_rd : ∀ {w cs x fp B}, od w cs x fp → (∀ b ∈ fp, b < B) → rd w B cs x
  od_zero : ∀ w, od w zero z0 []

/-- flat data: the cells are a function of the datum -/
@[reducible] def GT.flat {P : Program} {α : Type} (tid size bytes : Nat) (agg : Bool) (enc : α → List Value) (ok : α → Prop) (z0 : α) (hpos : 0 < size) (hone : agg = false → size = 1) (ht : tiB P tid size agg = true)
    (hinfo : (P.info? tid).map (fun i => (i.zero.map fun z => z.cells.toList, i.size, i.bytes)) = some (some (enc z0), size, bytes))
    (hlen : ∀ x, (enc x).length = size) (h1 : ∀ x, ∀ u ∈ enc x, u.oneCell' = true) (hz : ok z0) : GT P α where
  tid := tid
  size := size
  bytes := bytes
  agg := agg
  zero := enc z0
  z0 := z0
  rd := fun _ _ cs x => cs = enc x ∧ ok x
  od := fun _ cs x fp => cs = enc x ∧ ok x ∧ fp = []
  pos := hpos
  one := hone
  ti := ht
  info := hinfo
  rd_len := fun h => by rw [h.1, hlen]
  rd_one := fun h => by rw [h.1]; exact h1 _
  rd_keep := fun _ h => h
  rd_more := fun _ h => h
  od_len := fun h => by rw [h.1, hlen]
  od_one := fun h => by rw [h.1]; exact h1 _
  od_keep := fun _ h => h
  od_rd := fun h _ => ⟨h.1, h.2.1⟩
  od_zero := fun _ => ⟨rfl, hz, rfl⟩

section
variable {P : Program} {α : Type} [GT P α]
def rdAll (P : Program) {α : Type} [GT P α] (w : World) (B : Nat) : List Value → List α → Prop
  | xs, [] => xs = []
  | xs, x :: l => ∃ cs ys, xs = cs ++ ys ∧ GT.rd P w B cs x ∧ rdAll P w B ys l
def odAll (P : Program) {α : Type} [GT P α] (w : World) : List Value → List α → List Nat → Prop
  | xs, [], fp => xs = [] ∧ fp = []
  | xs, x :: l, fp => ∃ cs ys f g, xs = cs ++ ys ∧ fp = f ++ g ∧ GT.od P w cs x f ∧ odAll P w ys l g
theorem rdAll_len {w : World} {B : Nat} {l : List α} : ∀ {xs : List Value}, rdAll P w B xs l → xs.length = l.length * GT.size P α := by
  induction l with
  | nil => rintro xs rfl; simp
  | cons x l ih =>
    rintro xs ⟨cs, ys, rfl, h, hr⟩
    rw [List.length_append, GT.rd_len h, ih hr, List.length_cons, Nat.add_mul, Nat.one_mul, Nat.add_comm]
theorem rdAll_one {w : World} {B : Nat} {l : List α} : ∀ {xs : List Value}, rdAll P w B xs l → ∀ u ∈ xs, u.oneCell' = true := by
  induction l with
  | nil => rintro xs rfl u hu; cases hu
  | cons x l ih =>
    rintro xs ⟨cs, ys, rfl, h, hr⟩ u hu
    rcases List.mem_append.1 hu with h1 | h1
    · exact GT.rd_one h u h1
    · exact ih hr u h1
theorem rdAll_keep {w w' : World} {B : Nat} (hb : Below B w w') {l : List α} : ∀ {xs : List Value}, rdAll P w B xs l → rdAll P w' B xs l := by
  induction l with
  | nil => intro xs h; exact h
  | cons x l ih => rintro xs ⟨cs, ys, rfl, h, hr⟩; exact ⟨cs, ys, rfl, GT.rd_keep hb h, ih hr⟩
theorem rdAll_more {w : World} {B B' : Nat} (hb : B ≤ B') {l : List α} : ∀ {xs : List Value}, rdAll P w B xs l → rdAll P w B' xs l := by
  induction l with
  | nil => intro xs h; exact h
  | cons x l ih => rintro xs ⟨cs, ys, rfl, h, hr⟩; exact ⟨cs, ys, rfl, GT.rd_more hb h, ih hr⟩
theorem rdAll_get {w : World} {B : Nat} {l : List α} : ∀ {xs : List Value} {i : Nat} {x : α}, rdAll P w B xs l → l[i]? = some x →
    ∃ cs, GT.rd P w B cs x ∧ ∀ j u, cs[j]? = some u → xs[i * GT.size P α + j]? = some u := by
  induction l with
  | nil => intro xs i x _ hi; cases hi
  | cons y l ih =>
    rintro xs i x ⟨cs, ys, rfl, h, hr⟩ hi
    cases i with
    | zero =>
      simp only [List.getElem?_cons_zero, Option.some.injEq] at hi
      subst hi
      exact ⟨cs, h, fun j u hu => by
        have hj := (List.getElem?_eq_some_iff.1 hu).1
        rw [Nat.zero_mul, Nat.zero_add, List.getElem?_append_left hj]; exact hu⟩
    | succ i =>
      simp only [List.getElem?_cons_succ] at hi
      obtain ⟨cs', h', hat⟩ := ih hr hi
      refine ⟨cs', h', fun j u hu => ?_⟩
      have hl := GT.rd_len h
      rw [List.getElem?_append_right (by rw [hl, Nat.add_mul]; omega), hl, show (i + 1) * GT.size P α + j - GT.size P α = i * GT.size P α + j by rw [Nat.add_mul]; omega]
      exact hat j u hu
theorem rdAll_app {w : World} {B : Nat} {l m : List α} : ∀ {xs ys : List Value}, rdAll P w B xs l → rdAll P w B ys m → rdAll P w B (xs ++ ys) (l ++ m) := by
  induction l with
  | nil => rintro xs ys rfl h; exact h
  | cons x l ih => rintro xs ys ⟨cs, zs, rfl, h, hr⟩ h2; exact ⟨cs, zs ++ ys, by simp, h, ih hr h2⟩
theorem odAll_len {w : World} {l : List α} : ∀ {xs : List Value} {fp : List Nat}, odAll P w xs l fp → xs.length = l.length * GT.size P α := by
  induction l with
  | nil => rintro xs fp ⟨rfl, -⟩; simp
  | cons x l ih =>
    rintro xs fp ⟨cs, ys, f, g, rfl, rfl, h, hr⟩
    rw [List.length_append, GT.od_len h, ih hr, List.length_cons, Nat.add_mul, Nat.one_mul, Nat.add_comm]
theorem odAll_one {w : World} {l : List α} : ∀ {xs : List Value} {fp : List Nat}, odAll P w xs l fp → ∀ u ∈ xs, u.oneCell' = true := by
  induction l with
  | nil => rintro xs fp ⟨rfl, -⟩ u hu; cases hu
  | cons x l ih =>
    rintro xs fp ⟨cs, ys, f, g, rfl, rfl, h, hr⟩ u hu
    rcases List.mem_append.1 hu with h1 | h1
    · exact GT.od_one h u h1
    · exact ih hr u h1
theorem odAll_keep {w w' : World} {l : List α} : ∀ {xs : List Value} {fp : List Nat}, (∀ b ∈ fp, w'.heap[b]? = w.heap[b]?) → odAll P w xs l fp → odAll P w' xs l fp := by
  induction l with
  | nil => intro xs fp _ h; exact h
  | cons x l ih =>
    rintro xs fp hk ⟨cs, ys, f, g, rfl, rfl, h, hr⟩
    exact ⟨cs, ys, f, g, rfl, rfl, GT.od_keep (fun b hb => hk b (List.mem_append_left _ hb)) h, ih (fun b hb => hk b (List.mem_append_right _ hb)) hr⟩
theorem odAll_rd {w : World} {B : Nat} {l : List α} : ∀ {xs : List Value} {fp : List Nat}, odAll P w xs l fp → (∀ b ∈ fp, b < B) → rdAll P w B xs l := by
  induction l with
  | nil => rintro xs fp ⟨rfl, -⟩ _; rfl
  | cons x l ih =>
    rintro xs fp ⟨cs, ys, f, g, rfl, rfl, h, hr⟩ hb
    exact ⟨cs, ys, rfl, GT.od_rd h (fun b hbm => hb b (List.mem_append_left _ hbm)), ih hr (fun b hbm => hb b (List.mem_append_right _ hbm))⟩
theorem odAll_app {w : World} {l m : List α} : ∀ {xs ys : List Value} {f g : List Nat}, odAll P w xs l f → odAll P w ys m g → odAll P w (xs ++ ys) (l ++ m) (f ++ g) := by
  induction l with
  | nil => rintro xs ys f g ⟨rfl, rfl⟩ h; exact h
  | cons x l ih => rintro xs ys f g ⟨cs, zs, f1, f2, rfl, rfl, h, hr⟩ h2; exact ⟨cs, zs ++ ys, f1, f2 ++ g, by simp, by simp, h, ih hr h2⟩
/-- one element taken out, and another put in its place -/
theorem odAll_set {w : World} {l : List α} : ∀ {xs : List Value} {fp : List Nat} {i : Nat} {x : α}, odAll P w xs l fp → l[i]? = some x →
    ∃ xs1 cs xs2 f1 f f2, xs = xs1 ++ cs ++ xs2 ∧ xs1.length = i * GT.size P α ∧ fp = f1 ++ f ++ f2 ∧ GT.od P w cs x f ∧
      ∀ (w' : World) (cs' : List Value) (x' : α) (f' : List Nat), (∀ b ∈ f1 ++ f2, w'.heap[b]? = w.heap[b]?) → GT.od P w' cs' x' f' → odAll P w' (xs1 ++ cs' ++ xs2) (l.set i x') (f1 ++ f' ++ f2) := by
  induction l with
  | nil => intro xs fp i x _ hi; cases hi
  | cons y l ih =>
    rintro xs fp i x ⟨cs, ys, f, g, rfl, rfl, h, hr⟩ hi
    cases i with
    | zero =>
      simp only [List.getElem?_cons_zero, Option.some.injEq] at hi
      subst hi
      exact ⟨[], cs, ys, [], f, g, by simp, by simp, by simp, h, fun w' cs' x' f' hk h' => ⟨cs', ys, f', g, by simp, by simp, h', odAll_keep (fun b hb => hk b (by simpa using hb)) hr⟩⟩
    | succ i =>
      simp only [List.getElem?_cons_succ] at hi
      obtain ⟨xs1, cs0, xs2, f1, f0, f2, rfl, hl, rfl, hod, hset⟩ := ih hr hi
      refine ⟨cs ++ xs1, cs0, xs2, f ++ f1, f0, f2, by simp, by rw [List.length_append, GT.od_len h, hl, Nat.add_mul]; omega, by simp, hod, fun w' cs' x' f' hk h' => ?_⟩
      exact ⟨cs, xs1 ++ cs' ++ xs2, f, f1 ++ f' ++ f2, by simp, by simp, GT.od_keep (fun b hb => hk b (by simp [hb])) h, hset w' cs' x' f' (fun b hb => hk b (by rcases List.mem_append.1 hb with h | h <;> simp [h])) h'⟩

/-! slices -/
def rdL (P : Program) {α : Type} [GT P α] (w : World) (B : Nat) (cs : List Value) (l : List α) : Prop :=
  ∃ v, cs = [v] ∧ l.length ≤ maxLen ∧ ((v = .slice none 0 0 ∧ l = []) ∨
    ∃ a cap xs, v = .slice (some a) l.length cap ∧ l.length ≤ cap ∧ cap ≤ maxLen ∧ (xs ≠ [] → a.block < B) ∧ (∀ j u, xs[j]? = some u → w.cell? (a.add j) = some u) ∧ rdAll P w B xs l)
def odL (P : Program) {α : Type} [GT P α] (w : World) (cs : List Value) (l : List α) (fp : List Nat) : Prop :=
  ∃ v xs g, cs = [v] ∧ w.ownsRow 0 (GT.tid P α) (GT.size P α) v l.length xs ∧ odAll P w xs l g ∧ fp = v.ownBlock.toList ++ g
theorem block_add (a : Addr) (n : Nat) : (a.add n).block = a.block := by unfold Addr.add; split <;> rfl
theorem add_add (a : Addr) (i j : Nat) : (a.add i).add j = a.add (i + j) := by
  unfold Addr.add
  by_cases hi : i = 0 <;> by_cases hj : j = 0 <;> simp [hi, hj, Nat.add_assoc]
theorem rdL_keep {w w' : World} {B : Nat} {cs : List Value} {l : List α} (hb : Below B w w') (h : rdL P w B cs l) : rdL P w' B cs l := by
  obtain ⟨v, rfl, hl, h⟩ := h
  refine ⟨v, rfl, hl, ?_⟩
  rcases h with h | ⟨a, cap, xs, rfl, h1, h2, h3, h4, h5⟩
  · exact .inl h
  · refine .inr ⟨a, cap, xs, rfl, h1, h2, h3, fun j u hu => ?_, rdAll_keep hb h5⟩
    have hne : xs ≠ [] := by rintro rfl; cases hu
    rw [hb.cell (p := a.add j) (by rw [block_add]; exact h3 hne)]
    exact h4 j u hu
theorem rdL_more {w : World} {B B' : Nat} {cs : List Value} {l : List α} (hb : B ≤ B') (h : rdL P w B cs l) : rdL P w B' cs l := by
  obtain ⟨v, rfl, hl, h⟩ := h
  refine ⟨v, rfl, hl, ?_⟩
  rcases h with h | ⟨a, cap, xs, rfl, h1, h2, h3, h4, h5⟩
  · exact .inl h
  · exact .inr ⟨a, cap, xs, rfl, h1, h2, fun hx => Nat.lt_of_lt_of_le (h3 hx) hb, h4, rdAll_more hb h5⟩
theorem rdL_len {w : World} {B : Nat} {cs : List Value} {l : List α} (h : rdL P w B cs l) : cs.length = 1 := by
  obtain ⟨v, rfl, -⟩ := h; rfl
theorem rdL_one {w : World} {B : Nat} {cs : List Value} {l : List α} (h : rdL P w B cs l) : ∀ u ∈ cs, u.oneCell' = true := by
  obtain ⟨v, rfl, -, h⟩ := h
  intro u hu
  simp only [List.mem_singleton] at hu
  subst hu
  rcases h with ⟨rfl, -⟩ | ⟨a, cap, xs, rfl, -⟩ <;> rfl
theorem odL_keep {w w' : World} {cs : List Value} {l : List α} {fp : List Nat} (hk : ∀ b ∈ fp, w'.heap[b]? = w.heap[b]?) (h : odL P w cs l fp) : odL P w' cs l fp := by
  obtain ⟨v, xs, g, rfl, ho, ha, rfl⟩ := h
  refine ⟨v, xs, g, rfl, ?_, odAll_keep (fun b hb => hk b (List.mem_append_right _ hb)) ha, rfl⟩
  obtain ⟨h1, h2⟩ := ho
  refine ⟨h1, ?_⟩
  rcases h2 with h2 | ⟨b, cap, cur, rfl, hb0, hb, r⟩
  · exact .inl h2
  · exact .inr ⟨b, cap, cur, rfl, hb0, (hk b (by simp [Value.ownBlock])).trans hb, r⟩
theorem odL_len1 {w : World} {cs : List Value} {l : List α} {fp : List Nat} (h : odL P w cs l fp) : cs.length = 1 := by
  obtain ⟨v, xs, g, rfl, -⟩ := h; rfl
theorem odL_one {w : World} {cs : List Value} {l : List α} {fp : List Nat} (h : odL P w cs l fp) : ∀ u ∈ cs, u.oneCell' = true := by
  obtain ⟨v, xs, g, rfl, ho, -⟩ := h
  intro u hu
  simp only [List.mem_singleton] at hu
  subst hu
  rcases ho.2 with ⟨rfl, -⟩ | ⟨b, cap, cur, rfl, -⟩ <;> rfl
theorem odL_rd {w : World} {cs : List Value} {l : List α} {fp : List Nat} {B : Nat} (h : odL P w cs l fp) (hb : ∀ b ∈ fp, b < B) : rdL P w B cs l := by
  obtain ⟨v, xs, g, rfl, ho, ha, rfl⟩ := h
  have hr := odAll_rd ha (fun b hbm => hb b (List.mem_append_right _ hbm))
  rcases ho.2 with ⟨rfl, hn⟩ | ⟨b, cap, cur, rfl, -, hbk, hnc, hcm, hsz, htk⟩
  · exact ⟨_, rfl, by rw [hn]; exact Nat.zero_le _, .inl ⟨rfl, List.eq_nil_of_length_eq_zero hn⟩⟩
  · refine ⟨_, rfl, Nat.le_trans hnc hcm, .inr ⟨⟨b, 0, none⟩, cap, xs, rfl, hnc, hcm, fun _ => hb b (by simp [Value.ownBlock]), fun j u hu => ?_, hr⟩⟩
    have hj : j < xs.length := (List.getElem?_eq_some_iff.1 hu).1
    have hadd : (⟨b, 0, none⟩ : Addr).add j = ⟨b, j, none⟩ := by
      unfold Addr.add
      split
      · rename_i h; subst h; rfl
      · simp
    rw [hadd, World.cell?, hbk]
    have hjl : j < l.length * GT.size P α := by rw [← ho.1]; exact hj
    have : cur.toList[j]? = some u := by
      rw [← htk, List.getElem?_take_of_lt hjl] at hu; exact hu
    simpa using this
@[reducible] def GT.list (t : TypeId) (bytes : Nat) (ht : tiB P t 1 false = true) (hinfo : (P.info? t).map (fun i => (i.zero.map fun z => z.cells.toList, i.size, i.bytes)) = some (some [.slice none 0 0], 1, bytes)) : GT P (List α) where
  tid := t
  size := 1
  bytes := bytes
  agg := false
  zero := [.slice none 0 0]
  z0 := []
  rd := rdL P
  od := odL P
  pos := by decide
  one := fun _ => rfl
  ti := ht
  info := hinfo
  rd_len := rdL_len
  rd_one := rdL_one
  rd_keep := rdL_keep
  rd_more := rdL_more
  od_len := odL_len1
  od_one := odL_one
  od_keep := odL_keep
  od_rd := odL_rd
  od_zero := fun w => ⟨_, [], [], rfl, World.ownsRow_nil w 0 _ _, ⟨rfl, rfl⟩, rfl⟩
end
end Go.GL

namespace Go.GL
open Go Go.RowKit

/-! ## 8. Pointers, variables, owned data -/
def PR (P : Program) {α : Type} [GT P α] (w : World) (B : Nat) (p : Addr) (x : α) : Prop :=
  p.block < B ∧ ∃ cs, (∀ j u, cs[j]? = some u → w.cell? (p.add j) = some u) ∧ GT.rd P w B cs x
def blk (b : Nat) (t : TypeId) (cs : List Value) : HP := ⟨fun w fp => fp = [b] ∧ w.heap[b]? = some (.cells cs.toArray t (0, 0)), fun hk h => ⟨h.1, (hk _ (by simp [h.1])).trans h.2⟩⟩
def own (P : Program) {α : Type} [GT P α] (v : Value) (x : α) : HP := ⟨fun w fp => GT.od P w v.cells.toList x fp, fun hk h => GT.od_keep hk h⟩
def Ret (Φ : Value → World → Prop) : Ending → World → Prop
  | .returned v, w => Φ v w
  | _, _ => False
def evs (env : Env) : List Operand → List Value → Prop
  | [], vs => vs = []
  | x :: r, vs => ∃ v us, vs = v :: us ∧ ev env x = some v ∧ evs env r us
theorem Rel.evs {N : Nat} {env : Env} {a : Act} (ha : Rel N env a) : ∀ {xs : List Operand} {vs : List Value}, evs env xs vs → xs.map a.eval = vs
  | [], _, h => by simpa using h.symm
  | x :: r, _, ⟨v, us, e, h1, h2⟩ => by rw [e, List.map_cons, ha.eval h1, Rel.evs ha h2]

/-- a function with a body -/
def fnB (P : Program) (f : FuncId) : Bool :=
  match P.funcs[f]? with
  | some fn => fn.body.isSome && !(fn.name == "runtime.NumGoroutine")
  | none => false
theorem run_callFunc {P : Program} {f : FuncId} {args : Array Value} {w : World} (h : fnB P f = true) : (callFunc f args).run P w = .ok (.enter f args) w := by
  unfold fnB at h
  split at h
  · rename_i fn hf
    simp only [Bool.and_eq_true, Bool.not_eq_true'] at h
    obtain ⟨h1, h2⟩ := h
    cases hb : fn.body with
    | none => rw [hb] at h1; cases h1
    | some c =>
      have h3 : ¬ fn.name = "runtime.NumGoroutine" := by simpa using h2
      simp [callFunc, hf, h3, hb]
  · cases h

section
variable {P : Program} {N : Nat} {Q : Exit → Act → World → Prop} {env : Env} {w w' w0 : World} {ops : Array Oper} {rest : List Oper}
  {d : Nat} {t ty : TypeId} {pos : String} {af : Array Edge} {L : List Nat} {As : List HP}

theorem PR.keep {α : Type} [GT P α] {wq : World} {B : Nat} {p : Addr} {x : α} (h : PR P wq B p x) (hb : Below B wq w) : PR P w B p x := by
  obtain ⟨h1, cs, h2, h3⟩ := h
  exact ⟨h1, cs, fun j u hu => by rw [hb.cell (p := p.add j) (by rw [block_add]; exact h1)]; exact h2 j u hu, GT.rd_keep hb h3⟩
theorem St.rd {α : Type} [GT P α] {v : Value} {x : α} {k : Nat} (h : St w0 L w As) (hk : As[k]? = some (own P v x)) : GT.rd P w w.heap.size v.cells.toList x := by
  obtain ⟨fp, ho, hb⟩ := h.get hk
  exact GT.od_rd ho hb

/-! a call -/
theorem r_callv {f : FuncId} {x : Operand} {xs : List Operand} {ts : Array TypeId} {vs cap : List Value} {Φ : Value → World → Prop} (hf : fnB P f = true) (hN : Nat.blt d N = true)
    (hx : ev env x = some (.func (.func f) #[] cap.toArray)) (hargs : evs env xs vs) (hc : Calls P f (vs ++ cap).toArray w (Ret Φ)) (h : ∀ v w', Φ v w' → rwp P N ops Q rest ((d, v) :: env) w') :
    rwp P N ops Q (⟨some d, .call { callee := .value x, args := xs.toArray, argTypes := ts }, ty, pos, af, none⟩ :: rest) env w := by
  intro a ha
  refine wpList_plain rfl fun K hK => ?_
  unfold Oper.wp
  have hv := Rel.evs ha hargs
  have he : (execOp a.eval ⟨some d, .call { callee := .value x, args := xs.toArray, argTypes := ts }, ty, pos, af, none⟩).run P w = .ok (.enter f (vs ++ cap).toArray) w := by
    simp [execOp, resolve, ha.eval hx, Deferred.ofValue, invoke, hv, run_callFunc hf]
  rw [he]
  simp only [Oper.upon]
  refine hc.mono fun e w2 hr => ?_
  cases e with
  | returned v => exact hK _ _ (h v w2 hr _ (ha.put hN))
  | panicked c => exact hr.elim
  | outgrown => exact hr.elim
theorem r_call {f : FuncId} {xs : List Operand} {ts : Array TypeId} {vs : List Value} {Φ : Value → World → Prop} (hf : fnB P f = true) (hN : Nat.blt d N = true)
    (hargs : evs env xs vs) (hc : Calls P f vs.toArray w (Ret Φ)) (h : ∀ v w', Φ v w' → rwp P N ops Q rest ((d, v) :: env) w') :
    rwp P N ops Q (⟨some d, .call { callee := .value (.func f), args := xs.toArray, argTypes := ts }, ty, pos, af, none⟩ :: rest) env w :=
  r_callv (cap := []) hf hN rfl hargs (by simpa using hc) h

/-! new variables -/
theorem below_alloc (w : World) (o : Obj) : Below w.heap.size w (w.alloc o) := (Below.refl _ _).alloc (Nat.le_refl _) o
theorem st_alloc (w : World) (t : TypeId) (cs : List Value) : St w [] (w.alloc (.cells cs.toArray t)) [blk w.heap.size t cs] :=
  ⟨rfl, rfl, rfl, by simp, fun b hb _ => Below.heap_alloc w _ b hb, [w.heap.size], ⟨[w.heap.size], [], ⟨rfl, heap_alloc_new w _⟩, rfl, rfl⟩, by simp, fun b hb => by simp at hb; subst hb; simp⟩
theorem r_box {x : Operand} {v : Value} (hN : Nat.blt d N = true) (H : St w0 L w As) (hx : ev env x = some v)
    (h : ∀ b w', w.heap.size ≤ b → Below w.heap.size w w' → St w0 L w' (As ++ [blk b t v.cells.toList]) → rwp P N ops Q rest ((d, .pointer (some ⟨b, 0, none⟩)) :: env) w') :
    rwp P N ops Q (⟨some d, .box t x, ty, pos, af, none⟩ :: rest) env w :=
  r_val (v := .pointer (some ⟨w.heap.size, 0, none⟩)) (w' := w.alloc (.cells v.cells t)) rfl rfl hN (fun a ha => by simp [execOp, ha.eval hx, Instr.box, newVar, newRow])
    (h _ _ (Nat.le_refl _) (below_alloc _ _) (H.ext (by have := st_alloc w t v.cells.toList; rwa [Array.toArray_toList] at this)))
def zB (P : Program) (t : TypeId) (cs : List Value) : Prop := (P.info? t).map (fun i => i.zero.map fun z => z.cells.toList) = some (some cs)
theorem r_alloc {cs : List Value} (hz : zB P t cs) (hN : Nat.blt d N = true) (H : St w0 L w As)
    (h : ∀ b w', w.heap.size ≤ b → Below w.heap.size w w' → St w0 L w' (As ++ [blk b t cs]) → rwp P N ops Q rest ((d, .pointer (some ⟨b, 0, none⟩)) :: env) w') :
    rwp P N ops Q (⟨some d, .alloc t, ty, pos, af, none⟩ :: rest) env w := by
  unfold zB at hz
  cases hi : P.info? t with
  | none => rw [hi] at hz; cases hz
  | some i =>
    rw [hi] at hz
    simp only [Option.map_some, Option.some.injEq] at hz
    cases hzz : i.zero with
    | none => rw [hzz] at hz; cases hz
    | some z =>
      rw [hzz] at hz
      simp only [Option.map_some, Option.some.injEq] at hz
      subst hz
      exact r_val (v := .pointer (some ⟨w.heap.size, 0, none⟩)) (w' := w.alloc (.cells z.cells t)) rfl rfl hN (fun a ha => by simp [execOp, Instr.alloc, zeroValue, typeInfo, hi, hzz, newVar, newRow])
        (h _ _ (Nat.le_refl _) (below_alloc _ _) (H.ext (by have := st_alloc w t z.cells.toList; rwa [Array.toArray_toList] at this)))

/-! addresses -/
theorem r_field {s : TypeId} {f off : Nat} {x : Operand} {p : Addr} (hs : fiB P s f off = true) (hN : Nat.blt d N = true) (hx : ev env x = some (.pointer (some p)))
    (h : rwp P N ops Q rest ((d, .pointer (some (p.add off))) :: env) w) : rwp P N ops Q (⟨some d, .fieldAddr s x f, ty, pos, af, none⟩ :: rest) env w := by
  obtain ⟨fs, fd, i, hu, hf, ho, hi, hsz⟩ := fiB_spec hs
  exact r_val rfl rfl hN (fun a ha => by simp [execOp, ha.eval hx, run_fieldAt hu hf hi hsz, ho]) h
theorem r_index {α : Type} [GT P α] {x y : Operand} {v : Value} {k : IntKind} {i : Int} {l : List α} {e : α} {wq : World} {B : Nat} (ht : slB P t (GT.tid P α) = true) (hN : Nat.blt d N = true)
    (hr : rdL P wq B [v] l) (hx : ev env x = some v) (hy : ev env y = some (.int k i)) (h0 : 0 ≤ i) (he : l[i.toNat]? = some e)
    (h : ∀ p, PR P wq B p e → rwp P N ops Q rest ((d, .pointer (some p)) :: env) w) : rwp P N ops Q (⟨some d, .indexAddr t x y, ty, pos, af, none⟩ :: rest) env w := by
  obtain ⟨v', hv, -, hr⟩ := hr
  simp only [List.cons.injEq, and_true] at hv
  subst hv
  have hil : i.toNat < l.length := (List.getElem?_eq_some_iff.1 he).1
  rcases hr with ⟨-, rfl⟩ | ⟨a, cap, xs, rfl, h1, h2, h3, h4, h5⟩
  · cases he
  · obtain ⟨ie, u, hi, hs, hu, -⟩ := tiB_spec (GT.ti (P := P) (α := α))
    obtain ⟨cs, hcs, hat⟩ := rdAll_get h5 he
    have hpos := GT.pos (P := P) (α := α)
    have hlen := GT.rd_len hcs
    have hne : xs ≠ [] := by
      rintro rfl
      have := hat 0 (cs[0]'(by omega)) (List.getElem?_eq_getElem _)
      cases this
    refine r_val (v := .pointer (some (a.add (i.toNat * GT.size P α)))) (w' := w) rfl rfl hN (fun b hb => by simp [execOp, hb.eval hx, hb.eval hy, run_indexAt (slB_spec ht) hi h0 (show i < (l.length : Int) by omega), hs]) (h _ ?_)
    refine ⟨by rw [block_add]; exact h3 hne, cs, fun j u hu' => ?_, hcs⟩
    rw [add_add]
    exact h4 _ u (hat j u hu')

/-! loads -/
theorem r_load {α : Type} [GT P α] {x : Operand} {p : Addr} {e : α} {wq : World} {B : Nat} (ht : Nat.beq t (GT.tid P α) = true) (hN : Nat.blt d N = true) (hp : PR P wq B p e) (hb : Below B wq w) (hx : ev env x = some (.pointer (some p)))
    (h : ∀ cs, GT.rd P wq B cs e → rwp P N ops Q rest ((d, toVal (GT.agg P α) cs) :: env) w) : rwp P N ops Q (⟨some d, .load t x, ty, pos, af, none⟩ :: rest) env w := by
  obtain rfl : t = GT.tid P α := Nat.eq_of_beq_eq_true ht
  obtain ⟨h1, cs, h2, h3⟩ := hp
  exact r_val rfl rfl hN (fun a ha => by simp [execOp, ha.eval hx, run_loadAt (GT.ti (P := P) (α := α)) (GT.one) (GT.rd_len h3) (fun j u hu => (hb.cell (p := p.add j) (by rw [block_add]; exact h1)).trans (h2 j u hu))]) (h cs h3)
theorem cell_blk {b : Nat} {cs : List Value} {k off j : Nat} {tb : TypeId} {u : Value} (H : St w0 L w As) (hk : As[k]? = some (blk b tb cs)) (hu : cs[off + j]? = some u) : w.cell? ((⟨b, off, none⟩ : Addr).add j) = some u := by
  obtain ⟨fp, ⟨-, hb⟩, -⟩ := H.get hk
  have : (⟨b, off, none⟩ : Addr).add j = ⟨b, off + j, none⟩ := by
    unfold Addr.add
    split
    · rename_i h; subst h; rfl
    · rfl
  rw [this, World.cell?, hb]
  simpa using hu
/-- a variable, or one field of it -/
theorem r_ldb {b off k : Nat} {tb : TypeId} {cs : List Value} {x : Operand} {size : Nat} {agg : Bool} (ht : tiB P t size agg = true) (h1 : agg = false → size = 1) (hN : Nat.blt d N = true) (H : St w0 L w As) (hk : As[k]? = some (blk b tb cs))
    (hx : ev env x = some (.pointer (some ⟨b, off, none⟩))) (hl : Nat.ble (off + size) cs.length = true) (h : rwp P N ops Q rest ((d, toVal agg ((cs.drop off).take size)) :: env) w) :
    rwp P N ops Q (⟨some d, .load t x, ty, pos, af, none⟩ :: rest) env w := by
  have hl' : off + size ≤ cs.length := by simpa using hl
  refine r_val rfl rfl hN (fun a ha => ?_) h
  have := run_loadAt (P := P) (w := w) (p := ⟨b, off, none⟩) (cs := (cs.drop off).take size) ht h1 (by simp; omega) (fun j u hu => cell_blk H hk (by
    rw [List.getElem?_take] at hu
    split at hu
    · rw [List.getElem?_drop] at hu; exact hu
    · cases hu))
  simp [execOp, ha.eval hx, this]

/-! stores -/
def splice (cs : List Value) (off : Nat) (vs : List Value) : List Value := cs.take off ++ vs ++ cs.drop (off + vs.length)
theorem setRow_frame (w : World) (g : Nat) (cs cs' : Array Value) (t : TypeId) (hg : w.heap[g]? = some (.cells cs t (0, 0))) :
    (w.setRow g cs').os = w.os ∧ (w.setRow g cs').tape = w.tape ∧ (w.setRow g cs').output = w.output ∧ (w.setRow g cs').heap.size = w.heap.size ∧
      (∀ b, b ≠ g → (w.setRow g cs').heap[b]? = w.heap[b]?) ∧ (w.setRow g cs').heap[g]? = some (.cells cs' t (0, 0)) := by
  refine ⟨rfl, rfl, rfl, by simp [World.setRow], fun b hb => ?_, ?_⟩
  · simp [World.setRow, Array.getElem?_modify, Ne.symm hb]
  · simp [World.setRow, Array.getElem?_modify, hg]
theorem r_stb {b off k : Nat} {tb : TypeId} {cs vs : List Value} {x y : Operand} {v : Value} (H : St w0 L w As) (hk : As[k]? = some (blk b tb cs))
    (hx : ev env x = some (.pointer (some ⟨b, off, none⟩))) (hy : ev env y = some v) (hv : v.cells.toList = vs) {agg : Bool} (hsz : tiB P t vs.length agg = true) (h1 : ∀ u ∈ vs, u.oneCell' = true) (hl : Nat.ble (off + vs.length) cs.length = true)
    (h : ∀ w', (∀ B, B ≤ b → Below B w w') → St w0 L w' (As.set k (blk b tb (splice cs off vs))) → rwp P N ops Q rest env w') :
    rwp P N ops Q (⟨none, .store t x y, ty, pos, af, none⟩ :: rest) env w := by
  have hl' : off + vs.length ≤ cs.length := by simpa using hl
  obtain ⟨i, u, hi, hs, hu, ha⟩ := tiB_spec hsz
  obtain ⟨fp, ⟨-, hb⟩, -⟩ := H.get hk
  have hst := run_storeCells_at (P := P) b off tb vs 0 cs.toArray w hb (by simpa using hl') h1
  simp only [Nat.add_zero] at hst
  obtain ⟨g1, g2, g3, g4, g5, g6⟩ := setRow_frame w b cs.toArray (splice cs off vs).toArray tb hb
  refine r_unit (w' := w.setRow b (splice cs off vs).toArray) rfl rfl (fun a ha' => ?_) (h _ (fun B hB => ⟨g1, g2, g3, Nat.le_of_eq g4.symm, fun c hc => g5 c (by omega)⟩) (H.upd hk g1 g2 g3 (Nat.le_of_eq g4.symm) fun fp hfp _ _ => ?_))
  · have hcs : v.cells.size = vs.length := by rw [← hv]; simp
    simp [execOp, ha'.eval hx, ha'.eval hy, Instr.storeAt, Instr.sureAddr, storeVar, hcs, run_sizeOf hi, hs, hv, hst, splice]
  · obtain ⟨rfl, -⟩ := hfp
    exact ⟨[b], ⟨rfl, g6⟩, by simp, fun c hc => .inl hc, fun c _ hc => g5 c (by simpa using hc)⟩
end
end Go.GL

namespace Go.GL
open Go Go.RowKit

/-! ## 9. Owned slices -/
def PO (size : Nat) (v : Value) (i off : Nat) (p : Addr) : Prop := v.ownBlock.map (fun g => (⟨g, i * size + off, none⟩ : Addr)) = some p
theorem PO.add {size : Nat} {v : Value} {i off : Nat} {p : Addr} (h : PO size v i off p) (n : Nat) : PO size v i (off + n) (p.add n) := by
  unfold PO at *
  cases hv : v.ownBlock with
  | none => rw [hv] at h; cases h
  | some g =>
    rw [hv] at h
    simp only [Option.map_some, Option.some.injEq] at h ⊢
    subst h
    unfold Addr.add
    split
    · rename_i h; subst h; rfl
    · simp [Nat.add_assoc]
theorem PO.nth {size : Nat} {v : Value} {i off : Nat} {p : Addr} (h : PO size v i off p) : ∃ g, v.ownBlock = some g ∧ p = ⟨g, i * size + off, none⟩ := by
  unfold PO at h
  cases hv : v.ownBlock with
  | none => rw [hv] at h; cases h
  | some g => rw [hv] at h; simp at h; exact ⟨g, rfl, h.symm⟩

class Flat (P : Program) (α : Type) [GT P α] : Prop where
  rd_od : ∀ {w w' : World} {B : Nat} {cs : List Value} {x : α}, GT.rd P w B cs x → GT.od P w' cs x ([] : List Nat)
theorem rdAll_od {P : Program} {α : Type} [GT P α] [Flat P α] {w : World} {B : Nat} {l : List α} : ∀ {xs : List Value}, rdAll P w B xs l → odAll P w xs l [] := by
  induction l with
  | nil => rintro xs rfl; exact ⟨rfl, rfl⟩
  | cons x l ih => rintro xs ⟨cs, ys, rfl, h, hr⟩; exact ⟨cs, ys, [], [], rfl, rfl, Flat.rd_od h, ih hr⟩

theorem info_parts' {P : Program} {α : Type} [GT P α] : ∃ i z, P.info? (GT.tid P α) = some i ∧ i.zero = some z ∧ i.size = GT.size P α ∧ i.bytes = GT.bytes P α ∧ z.cells.toList = GT.zero P α := by
  have h := GT.info (P := P) (α := α)
  cases hi : P.info? (GT.tid P α) with
  | none => rw [hi] at h; cases h
  | some i =>
    rw [hi] at h
    simp only [Option.map_some, Option.some.injEq, Prod.mk.injEq] at h
    obtain ⟨h1, h2, h3⟩ := h
    cases hz : i.zero with
    | none => rw [hz] at h1; cases h1
    | some z => rw [hz] at h1; simp at h1; exact ⟨i, z, rfl, hz, h2, h3, h1⟩
theorem zero_len {P : Program} {α : Type} [GT P α] : (GT.zero P α).length = GT.size P α := GT.od_len (GT.od_zero (P := P) (α := α) default)

def roomN : Nat := 1099511627776
def smB (P : Program) (α : Type) [GT P α] : Bool := Nat.ble (GT.bytes P α) 128

theorem run_append_nil {P : Program} {w : World} {t ty e : TypeId} {i : TypeInfo} (ht : P.underlying t = some (.slice e)) (hi : P.info? e = some i)
    (v : Value) (n : Nat) (xs : List Value) (size : Nat) (hown : w.ownsRow 0 e size v n xs) (c : Nat) : (Builtin.append_ #[t, t] ty #[v, .slice none 0 c]).run P w = .ok v w := by
  rcases hown.2 with ⟨rfl, rfl⟩ | ⟨g, cap, cur, rfl, _, _, hnc, _⟩
  · simp [Builtin.append_, run_underlying ht, sizeOf, typeInfo, hi, Builtin.lenOf, Builtin.firstCells]
  · simp [Builtin.append_, run_underlying ht, sizeOf, typeInfo, hi, Builtin.lenOf, Builtin.firstCells, hnc, storeCells]

section
variable {P : Program} {N : Nat} {Q : Exit → Act → World → Prop} {env : Env} {w w' w0 : World} {ops : Array Oper} {rest : List Oper}
  {d : Nat} {t ty : TypeId} {pos : String} {af : Array Edge} {L : List Nat} {As R : List HP}
  {α : Type} [GT P α]

/-- the slice's own assertion -/
def ownL (P : Program) {α : Type} [GT P α] (v : Value) (l : List α) : HP := ⟨fun w fp => odL P w [v] l fp, fun hk h => odL_keep hk h⟩
theorem St.rdl {v : Value} {l : List α} {k : Nat} (h : St w0 L w As) (hk : As[k]? = some (ownL P v l)) : rdL P w w.heap.size [v] l := by
  obtain ⟨fp, ho, hb⟩ := h.get hk
  exact odL_rd ho hb
theorem St.llen {v : Value} {l : List α} {k : Nat} (h : St w0 L w As) (hk : As[k]? = some (ownL P v l)) : ∃ p c, v = .slice p l.length c := by
  obtain ⟨u, hu, -, h1⟩ := h.rdl hk
  simp only [List.cons.injEq, and_true] at hu
  subst hu
  rcases h1 with ⟨rfl, rfl⟩ | ⟨a, cap, xs, rfl, -⟩
  · exact ⟨none, 0, rfl⟩
  · exact ⟨some a, cap, rfl⟩
theorem rdL.shape {B : Nat} {v : Value} {l : List α} (h : rdL P w B [v] l) : ∃ p c, v = .slice p l.length c := by
  obtain ⟨u, hu, -, h1⟩ := h
  simp only [List.cons.injEq, and_true] at hu
  subst hu
  rcases h1 with ⟨rfl, rfl⟩ | ⟨a, cap, xs, rfl, -⟩
  · exact ⟨none, 0, rfl⟩
  · exact ⟨some a, cap, rfl⟩

theorem append_core {v vs : Value} {l m : List α} {xs : List Value} {fp g : List Nat} (ht : slB P t (GT.tid P α) = true) (hsm : smB P α = true) (hroom : l.length + m.length ≤ roomN)
    (ho : odL P w [v] l fp) (hfp : ∀ b ∈ fp, b < w.heap.size)
    (hsrc : (vs = .slice none 0 0 ∧ m = []) ∨ ∃ a cap, vs = .slice (some a) m.length cap ∧ (∀ j u, xs[j]? = some u → w.cell? (a.add j) = some u) ∧ xs.length = m.length * GT.size P α ∧ ∀ u ∈ xs, u.oneCell' = true)
    (hod : odAll P w xs m g) (hnd : (fp ++ g).Nodup) (hg : ∀ b ∈ g, b < w.heap.size) :
    ∃ v' w', (Builtin.append_ #[t, t] ty #[v, vs]).run P w = .ok v' w' ∧ w'.os = w.os ∧ w'.tape = w.tape ∧ w'.output = w.output ∧ w.heap.size ≤ w'.heap.size ∧
      (∀ b, b < w.heap.size → b ∉ fp → w'.heap[b]? = w.heap[b]?) ∧
      ∃ fp', odL P w' [v'] (l ++ m) fp' ∧ fp'.Nodup ∧ ∀ b ∈ fp', b ∈ fp ++ g ∨ (w.heap.size ≤ b ∧ b < w'.heap.size) := by
  obtain ⟨i, z, hi, hz, hsz, hby, hzc⟩ := info_parts' (P := P) (α := α)
  have hu := slB_spec ht
  obtain ⟨u, ys, gl, hv, hown, hall, rfl⟩ := ho
  simp only [List.cons.injEq, and_true] at hv
  subst hv
  rcases hsrc with ⟨rfl, rfl⟩ | ⟨a, cap, rfl, hcells, hxl, h1⟩
  · obtain ⟨rfl, rfl⟩ := hod
    exact ⟨v, w, run_append_nil hu hi v _ ys _ hown 0, rfl, rfl, rfl, Nat.le_refl _, fun _ _ _ => rfl, _, ⟨v, ys, gl, rfl, by simpa using hown, by simpa using hall, rfl⟩, by simpa using hnd, fun b hb => .inl (by simpa using hb)⟩
  · have hzs : z.cells.size = GT.size P α := by rw [← zero_len (P := P) (α := α), ← hzc]; simp
    have hb128 : GT.bytes P α ≤ 128 := by unfold smB at hsm; simpa using hsm
    unfold roomN at hroom
    obtain ⟨v', w', hrun, hown', hgrow, -, hat⟩ := run_append_own_at (P := P) w 0 t ty (GT.tid P α) i z (GT.size P α) (GT.bytes P α) hu hi hz hsz hby hzs GT.pos v l.length ys hown a m.length cap xs hxl hcells h1
      (by unfold maxLen; omega) (by
        have : (l.length + m.length) * GT.bytes P α ≤ 1099511627776 * 128 := Nat.mul_le_mul hroom hb128
        omega) (Nat.zero_le _)
    have hkeep : ∀ b ∈ gl ++ g, w'.heap[b]? = w.heap[b]? := by
      intro b hb
      have hlt : b < w.heap.size := by
        rcases List.mem_append.1 hb with h | h
        · exact hfp b (List.mem_append_right _ h)
        · exact hg b h
      refine hgrow.block b hlt (fun e => ?_)
      rw [← e] at hnd
      simp only [Option.toList_some, List.cons_append, List.nil_append, List.nodup_cons] at hnd
      exact hnd.1 hb
    refine ⟨v', w', hrun, hgrow.os, hgrow.tape, hgrow.output, hgrow.size, fun b hb hn => hgrow.block b hb (fun e => hn (by rw [← e]; simp)), v'.ownBlock.toList ++ (gl ++ g), ⟨v', ys ++ xs, gl ++ g, rfl, by simpa using hown', ?_, rfl⟩, ?_, ?_⟩
    · exact odAll_app (odAll_keep (fun b hb => hkeep b (List.mem_append_left _ hb)) hall) (odAll_keep (fun b hb => hkeep b (List.mem_append_right _ hb)) hod)
    · have hnd2 : (gl ++ g).Nodup := by
        rw [List.append_assoc] at hnd
        exact (List.nodup_append.1 hnd).2.1
      rcases hat with e | e
      · rw [e]; rwa [List.append_assoc] at hnd
      · rw [e]
        simp only [Option.toList_some, List.cons_append, List.nil_append, List.nodup_cons]
        refine ⟨fun hb => ?_, hnd2⟩
        have hlt : w.heap.size < w.heap.size := by
          rcases List.mem_append.1 hb with h | h
          · exact hfp _ (List.mem_append_right _ h)
          · exact hg _ h
        omega
    · intro b hb
      rcases List.mem_append.1 hb with h | h
      · rcases hat with e | e
        · rw [e] at h; exact .inl (by simp [h])
        · right
          rw [e] at h
          simp at h
          subst h
          refine ⟨Nat.le_refl _, ?_⟩
          have := (hown'.lt _ e).2
          exact this
      · exact .inl (by rcases List.mem_append.1 h with h | h <;> simp [h])

theorem run_exec_append {x y : Operand} {v vs : Value} {a : Act} {r : Value} {w' : World} (hx : a.eval x = v) (hy : a.eval y = vs) (hr : (Builtin.append_ #[t, t] ty #[v, vs]).run P w = .ok r w') :
    (execOp a.eval ⟨some d, .call { callee := .builtin .append, args := #[x, y], argTypes := #[t, t] }, ty, pos, af, none⟩).run P w = .ok (.value r) w' := by
  simp [execOp, resolve, invoke, builtin, hx, hy, hr]
theorem St.open_ {A : HP} {k : Nat} (h : St w0 L w As) (hk : As[k]? = some A) : ∃ fp, A.holds w fp ∧ fp.Nodup ∧ (∀ b ∈ fp, b < w.heap.size) ∧
    ∀ (w' : World) (A' : HP), w'.os = w.os → w'.tape = w.tape → w'.output = w.output → w.heap.size ≤ w'.heap.size → (∀ b, b < w.heap.size → b ∉ fp → w'.heap[b]? = w.heap[b]?) →
      (∃ fp', A'.holds w' fp' ∧ fp'.Nodup ∧ ∀ b ∈ fp', b ∈ fp ∨ (w.heap.size ≤ b ∧ b < w'.heap.size)) → St w0 L w' (As.set k A') := by
  obtain ⟨fp, hs, hn, hb⟩ := h.sep
  obtain ⟨f1, f, f2, rfl, hAh, -, hupd⟩ := hs.split hk
  have hnf : f.Nodup := (List.nodup_append.1 (List.nodup_append.1 hn).1).2.1
  have hbf : ∀ b ∈ f, b < w.heap.size := fun b hf => (hb b (by simp [hf])).2
  refine ⟨f, hAh, hnf, hbf, fun w' A' hos htape hout hsz hfr hA' => ?_⟩
  have hsub : ∀ g, A.holds w g → True := fun _ _ => trivial
  obtain ⟨f', hA', hn', hin⟩ := hA'
  have hnotin : ∀ b ∈ f1 ++ f2, b ∉ f := by
    intro b hb12 hbf'
    rw [List.nodup_append] at hn
    obtain ⟨h12, _, hd2⟩ := hn
    rw [List.nodup_append] at h12
    obtain ⟨_, _, hd1⟩ := h12
    rcases List.mem_append.1 hb12 with h1 | h1
    · exact hd1 b h1 b hbf' rfl
    · exact hd2 b (by simp [hbf']) b h1 rfl
  have hlt : ∀ b ∈ f1 ++ f2, b < w.heap.size := fun b hb12 => (hb b (by rcases List.mem_append.1 hb12 with h | h <;> simp [h])).2
  have hkeep : ∀ b ∈ f1 ++ f2, w'.heap[b]? = w.heap[b]? := fun b hb12 => hfr b (hlt b hb12) (hnotin b hb12)
  refine ⟨hos.trans h.os, htape.trans h.tape, hout.trans h.output, Nat.le_trans h.size hsz, fun b hb0 hl => ?_, f1 ++ f' ++ f2, hupd w' A' f' hkeep hA', ?_, ?_⟩
  · have hlt0 : b < w.heap.size := Nat.lt_of_lt_of_le hb0 h.size
    refine (hfr b hlt0 (fun hbf' => ?_)).trans (h.block b hb0 hl)
    rcases (hb b (by simp [hbf'])).1 with h1 | h1
    · exact hl h1
    · omega
  · have hd : ∀ b ∈ f', b ∉ f1 ++ f2 := by
      intro b hbf' hb12
      rcases hin b hbf' with h1 | ⟨h1, _⟩
      · exact hnotin b hb12 h1
      · have := hlt b hb12; omega
    rw [List.nodup_append] at hn ⊢
    obtain ⟨h12, hn2, hd2⟩ := hn
    rw [List.nodup_append] at h12
    refine ⟨List.nodup_append.2 ⟨h12.1, hn', fun a ha b hb' e => hd b hb' (by subst e; simp [ha])⟩, hn2, fun a ha b hb' e => ?_⟩
    subst e
    rcases List.mem_append.1 ha with h1 | h1
    · exact hd2 a (by simp [h1]) a hb' rfl
    · exact hd a h1 (by simp [hb'])
  · intro b hbm
    have h3 : b ∈ f' ∨ b ∈ f1 ++ f2 := by
      rcases List.mem_append.1 hbm with h | h
      · rcases List.mem_append.1 h with h | h
        · exact .inr (by simp [h])
        · exact .inl h
      · exact .inr (by simp [h])
    rcases h3 with h1 | h1
    · rcases hin b h1 with h2 | ⟨h2, h4⟩
      · exact ⟨(hb b (by simp [h2])).1, Nat.lt_of_lt_of_le (hbf b h2) hsz⟩
      · exact ⟨.inr (Nat.le_trans h.size h2), h4⟩
    · exact ⟨(hb b (by rcases List.mem_append.1 h1 with h | h <;> simp [h])).1, Nat.lt_of_lt_of_le (hlt b h1) hsz⟩
def star (A B : HP) : HP := ⟨fun w fp => ∃ f g, fp = f ++ g ∧ A.holds w f ∧ B.holds w g, fun hk ⟨f, g, e, h1, h2⟩ => ⟨f, g, e, A.keep (fun b hb => hk b (by simp [e, hb])) h1, B.keep (fun b hb => hk b (by simp [e, hb])) h2⟩⟩
theorem St.star {A B : HP} (h : St w0 L w (A :: B :: R)) : St w0 L w (star A B :: R) := h.join fun f g h1 h2 => ⟨f ++ g, ⟨f, g, rfl, h1, h2⟩, List.Perm.refl _⟩

/-- append from memory that is only read (flat elements) -/
theorem r_app_rd [Flat P α] {x y : Operand} {v vs : Value} {l m : List α} {wq : World} {B k : Nat} (ht : slB P t (GT.tid P α) = true) (hsm : smB P α = true) (hN : Nat.blt d N = true) (H : St w0 L w As) (hk : As[k]? = some (ownL P v l))
    (hr : rdL P wq B [vs] m) (hb : Below B wq w) (hx : ev env x = some v) (hy : ev env y = some vs) (hroom : decide (l.length + m.length ≤ roomN) = true)
    (h : ∀ v' w', w.heap.size ≤ w'.heap.size → St w0 L w' (As.set k (ownL P v' (l ++ m))) → rwp P N ops Q rest ((d, v') :: env) w') :
    rwp P N ops Q (⟨some d, .call { callee := .builtin .append, args := #[x, y], argTypes := #[t, t] }, ty, pos, af, none⟩ :: rest) env w := by
  obtain ⟨u, hu, hml, hsrc⟩ := rdL_keep hb hr
  simp only [List.cons.injEq, and_true] at hu
  subst hu
  obtain ⟨fp, ho, hnd, hfp, hclose⟩ := H.open_ hk
  have hroom' : l.length + m.length ≤ roomN := by simpa using hroom
  obtain ⟨xs, hod, hsrc'⟩ : ∃ xs, odAll P w xs m [] ∧ ((vs = .slice none 0 0 ∧ m = []) ∨ ∃ a cap, vs = .slice (some a) m.length cap ∧ (∀ j u, xs[j]? = some u → w.cell? (a.add j) = some u) ∧ xs.length = m.length * GT.size P α ∧ ∀ u ∈ xs, u.oneCell' = true) := by
    rcases hsrc with ⟨rfl, rfl⟩ | ⟨a, cap, xs, rfl, h1, h2, h3, h4, h5⟩
    · exact ⟨[], ⟨rfl, rfl⟩, .inl ⟨rfl, rfl⟩⟩
    · exact ⟨xs, rdAll_od h5, .inr ⟨a, cap, rfl, h4, rdAll_len h5, rdAll_one h5⟩⟩
  obtain ⟨v', w', hrun, g1, g2, g3, g4, g5, fp', g6, g7, g8⟩ := append_core (ty := ty) (fp := fp) ht hsm hroom' ho hfp hsrc' hod (by simpa using hnd) (fun b hb => by cases hb)
  exact r_val rfl rfl hN (fun a ha => run_exec_append (ha.eval hx) (ha.eval hy) hrun) (h v' w' g4 (hclose w' _ g1 g2 g3 g4 g5 ⟨fp', g6, g7, fun b hb => by simpa using g8 b hb⟩))
/-- append of a slice of the call's own, whose elements go over -/
theorem r_app_own {x y : Operand} {v vs : Value} {l m : List α} (ht : slB P t (GT.tid P α) = true) (hsm : smB P α = true) (hN : Nat.blt d N = true) (H : St w0 L w (ownL P v l :: ownL P vs m :: R))
    (hx : ev env x = some v) (hy : ev env y = some vs) (hroom : decide (l.length + m.length ≤ roomN) = true)
    (h : ∀ v' w', w.heap.size ≤ w'.heap.size → St w0 L w' (ownL P v' (l ++ m) :: R) → rwp P N ops Q rest ((d, v') :: env) w') :
    rwp P N ops Q (⟨some d, .call { callee := .builtin .append, args := #[x, y], argTypes := #[t, t] }, ty, pos, af, none⟩ :: rest) env w := by
  obtain ⟨fp, ⟨f, g, rfl, ho, hs⟩, hnd, hfp, hclose⟩ := H.star.open_ (k := 0) rfl
  have hroom' : l.length + m.length ≤ roomN := by simpa using hroom
  have hrdl := odL_rd hs (B := w.heap.size) (fun b hb => hfp b (by simp [hb]))
  obtain ⟨u, xs, gm, hu, hown, hall, rfl⟩ := hs
  simp only [List.cons.injEq, and_true] at hu
  subst hu
  have hsrc : (vs = .slice none 0 0 ∧ m = []) ∨ ∃ a cap, vs = .slice (some a) m.length cap ∧ (∀ j u, xs[j]? = some u → w.cell? (a.add j) = some u) ∧ xs.length = m.length * GT.size P α ∧ ∀ u ∈ xs, u.oneCell' = true := by
    rcases hown.2 with ⟨rfl, hn⟩ | ⟨b, cap, cur, rfl, -, hbk, hnc, hcm, hsz, htk⟩
    · exact .inl ⟨rfl, List.eq_nil_of_length_eq_zero hn⟩
    · refine .inr ⟨⟨b, 0, none⟩, cap, rfl, fun j u hu => ?_, odAll_len hall, odAll_one hall⟩
      have hj : j < xs.length := (List.getElem?_eq_some_iff.1 hu).1
      have hadd : (⟨b, 0, none⟩ : Addr).add j = ⟨b, j, none⟩ := by
        unfold Addr.add
        split
        · rename_i h; subst h; rfl
        · simp
      rw [hadd, World.cell?, hbk]
      have hjl : j < m.length * GT.size P α := by rw [← hown.1]; exact hj
      have : cur.toList[j]? = some u := by
        rw [← htk, List.getElem?_take_of_lt hjl] at hu; exact hu
      simpa using this
  have hnd' : (f ++ gm).Nodup := by
    refine List.Nodup.sublist ?_ hnd
    exact List.Sublist.append (List.Sublist.refl _) (List.sublist_append_right _ _)
  obtain ⟨v', w', hrun, g1, g2, g3, g4, g5, fp', g6, g7, g8⟩ := append_core (ty := ty) (fp := f) ht hsm hroom' ho (fun b hb => hfp b (by simp [hb])) hsrc hall hnd' (fun b hb => hfp b (by simp [hb]))
  exact r_val rfl rfl hN (fun a ha => run_exec_append (ha.eval hx) (ha.eval hy) hrun) (h v' w' g4 (hclose w' (ownL P v' (l ++ m)) g1 g2 g3 g4 (fun b hb hn => g5 b hb (fun hf => hn (by simp [hf]))) ⟨fp', g6, g7, fun b hb => by
    rcases g8 b hb with h | h
    · exact .inl (by rcases List.mem_append.1 h with h | h <;> simp [h])
    · exact .inr h⟩))
end
end Go.GL

namespace Go.GL
open Go Go.RowKit

section
variable {P : Program} {N : Nat} {Q : Exit → Act → World → Prop} {env : Env} {w w' w0 : World} {ops : Array Oper} {rest : List Oper}
  {d : Nat} {t ty : TypeId} {pos : String} {af : Array Edge} {L : List Nat} {As R : List HP}
  {α : Type} [GT P α]

/-! new slices -/
theorem st_new {cs : List Value} {l : List α} {cap : Nat} (hl : l.length ≤ cap) (hm : cap ≤ maxLen) (hc : cs.length = cap * GT.size P α) {f : List Nat} (hod : odAll P w (cs.take (l.length * GT.size P α)) l f) (hf : f = []) :
    St w [] (w.alloc (.cells cs.toArray (GT.tid P α))) [ownL P (.slice (some ⟨w.heap.size, 0, none⟩) l.length cap) l] := by
  subst hf
  refine ⟨rfl, rfl, rfl, by simp, fun b hb _ => Below.heap_alloc w _ b hb, [w.heap.size], ⟨[w.heap.size], [], ⟨_, cs.take (l.length * GT.size P α), [], rfl, ?_, odAll_keep (fun b hb => by cases hb) hod, rfl⟩, rfl, rfl⟩, by simp, fun b hb => by simp at hb; subst hb; simp⟩
  refine ⟨odAll_len hod, .inr ⟨w.heap.size, cap, cs.toArray, rfl, Nat.zero_le _, heap_alloc_new w _, hl, hm, by simpa using hc, by simp⟩⟩
/-- '[]T{}' -/
theorem r_lit0 (ht : slB P t (GT.tid P α) = true) (hN : Nat.blt d N = true) (H : St w0 L w As)
    (h : ∀ v w', Below w.heap.size w w' → St w0 L w' (As ++ [ownL P v ([] : List α)]) → rwp P N ops Q rest ((d, v) :: env) w') :
    rwp P N ops Q (⟨some d, .buildSlice t 0 #[], ty, pos, af, none⟩ :: rest) env w := by
  obtain ⟨i, z, hi, hz, hsz, hby, hzc⟩ := info_parts' (P := P) (α := α)
  refine r_val (v := .slice (some ⟨w.heap.size, 0, none⟩) 0 0) (w' := w.alloc (.cells #[] (GT.tid P α))) rfl rfl hN (fun a ha => ?_) (h _ _ (below_alloc _ _) (H.ext ?_))
  · simp [execOp, Instr.buildSlice, run_underlying (slB_spec ht), sizeOf, typeInfo, hi, Instr.fill, newRow, Array.range_zero']
  · exact st_new (cs := []) (l := ([] : List α)) (cap := 0) (by simp) (by simp) (by simp) (f := []) ⟨by simp, rfl⟩ rfl
theorem fill_one {n : Nat} {v : Value} {zs : Array Value} (hv : v.cells.size = n) (hz : zs.size = n) : Instr.fill (fun i => some (i * n, n)) zs [(0, v)] = some v.cells := by
  have key : ∀ (l : List Value) (k : Nat) (cs : Array Value), k + l.length = cs.size → ((l.zipIdx k).foldl (fun cs (p : Value × Nat) => cs.setIfInBounds p.2 p.1) cs).toList = cs.toList.take k ++ l := by
    intro l
    induction l with
    | nil => intro k cs hk; simp at hk; subst hk; rw [List.take_of_length_le (by simp)]; simp
    | cons x l ih =>
      intro k cs hk
      simp only [List.zipIdx_cons, List.foldl_cons]
      rw [ih (k + 1) _ (by simp at hk ⊢; omega)]
      simp only [List.length_cons] at hk
      rw [Array.toList_setIfInBounds, List.take_succ_eq_append_getElem (by simp; omega)]
      simp only [List.take_set, List.getElem_set_self, List.append_assoc, List.singleton_append]
      rw [List.set_eq_of_length_le (by simp; omega)]
  have h1 := key v.cells.toList 0 zs (by simp [hv, hz])
  simp only [Instr.fill, Nat.zero_mul, hv, hz, Nat.zero_add]
  simp only [ne_eq, not_true_eq_false, decide_false, Bool.false_or, Nat.lt_irrefl, gt_iff_lt, Bool.false_eq_true, if_false]
  congr 1
  apply Array.ext'
  rw [← Array.foldl_toList, Array.toList_zipIdx]
  simpa using h1
/-- '[]T{x}', x flat or its parts owned -/
theorem r_lit1 {x : Operand} {v : Value} {e : α} (ht : slB P t (GT.tid P α) = true) (hsm : Nat.ble (GT.size P α) 100 = true) (hN : Nat.blt d N = true) (H : St w0 L w As) (hx : ev env x = some v) (he : GT.od P w v.cells.toList e [])
    (h : ∀ v w', Below w.heap.size w w' → St w0 L w' (As ++ [ownL P v [e]]) → rwp P N ops Q rest ((d, v) :: env) w') :
    rwp P N ops Q (⟨some d, .buildSlice t 1 #[(0, x)], ty, pos, af, none⟩ :: rest) env w := by
  obtain ⟨i, z, hi, hz, hsz, hby, hzc⟩ := info_parts' (P := P) (α := α)
  have hlen : v.cells.size = GT.size P α := by have := GT.od_len he; simpa using this
  have hpos := GT.pos (P := P) (α := α)
  have hsm' : GT.size P α ≤ 100 := by simpa using hsm
  refine r_val (v := .slice (some ⟨w.heap.size, 0, none⟩) 1 1) (w' := w.alloc (.cells v.cells (GT.tid P α))) rfl rfl hN (fun a ha => ?_) (h _ _ (below_alloc _ _) (H.ext ?_))
  · have := run_buildSlice (P := P) w t (GT.tid P α) 1 #[(0, v)] v.cells i z (slB_spec ht) hi hz (by rw [hsz]; omega) (by rw [hsz]; omega) (by rw [hsz]; exact fill_one hlen (by simp))
    simp [execOp, ha.eval hx, this]
  · have := st_new (P := P) (w := w) (cs := v.cells.toList) (l := [e]) (cap := 1) (by simp) (by simp [maxLen]) (by simp [hlen]) (f := [])
      ⟨v.cells.toList, [], [], [], by rw [List.take_of_length_le (by simp [hlen])]; simp, rfl, he, rfl, rfl⟩ rfl
    rwa [Array.toArray_toList] at this
/-- '[]T{x}' where x owns memory: the assertion at the front goes in -/
theorem r_lit1_own {x : Operand} {v : Value} {e : α} {A : HP} (ht : slB P t (GT.tid P α) = true) (hsm : Nat.ble (GT.size P α) 100 = true) (hN : Nat.blt d N = true) (H : St w0 L w (A :: R)) (hx : ev env x = some v) (he : ∀ f, A.holds w f → GT.od P w v.cells.toList e f)
    (h : ∀ v w', Below w.heap.size w w' → St w0 L w' (ownL P v [e] :: R) → rwp P N ops Q rest ((d, v) :: env) w') :
    rwp P N ops Q (⟨some d, .buildSlice t 1 #[(0, x)], ty, pos, af, none⟩ :: rest) env w := by
  obtain ⟨i, z, hi, hz, hsz, hby, hzc⟩ := info_parts' (P := P) (α := α)
  obtain ⟨f0, hf0, -⟩ := H.get (k := 0) rfl
  have hlen : v.cells.size = GT.size P α := by have := GT.od_len (he f0 hf0); simpa using this
  have hpos := GT.pos (P := P) (α := α)
  have hsm' : GT.size P α ≤ 100 := by simpa using hsm
  obtain ⟨fp, hA, hnd, hfp, hclose⟩ := H.open_ (k := 0) rfl
  refine r_val (v := .slice (some ⟨w.heap.size, 0, none⟩) 1 1) (w' := w.alloc (.cells v.cells (GT.tid P α))) rfl rfl hN (fun a ha => ?_) (h _ _ (below_alloc _ _) ?_)
  · have := run_buildSlice (P := P) w t (GT.tid P α) 1 #[(0, v)] v.cells i z (slB_spec ht) hi hz (by rw [hsz]; omega) (by rw [hsz]; omega) (by rw [hsz]; exact fill_one hlen (by simp))
    simp [execOp, ha.eval hx, this]
  · refine hclose _ (ownL P (.slice (some ⟨w.heap.size, 0, none⟩) 1 1) [e]) rfl rfl rfl (by simp) (fun b hb _ => Below.heap_alloc w _ b hb) ⟨w.heap.size :: fp, ⟨_, v.cells.toList, fp, rfl, ?_, ?_, rfl⟩, ?_, ?_⟩
    · exact ⟨by simp [hlen], .inr ⟨w.heap.size, 1, v.cells, rfl, Nat.zero_le _, heap_alloc_new w _, by simp, by simp [maxLen], by simp [hlen], by rw [List.take_of_length_le (by simp [hlen])]⟩⟩
    · exact odAll_keep (w := w) (fun b hb => Below.heap_alloc w _ b (hfp b hb)) ⟨v.cells.toList, [], fp, [], by simp, by simp, he fp hA, rfl, rfl⟩
    · exact List.nodup_cons.2 ⟨fun hb => by have := hfp _ hb; omega, hnd⟩
    · intro b hb
      rcases List.mem_cons.1 hb with rfl | hb
      · right; simp
      · exact .inl hb
theorem fill_two {u v : Value} {zs : Array Value} (hu : u.oneCell' = true) (hv : v.oneCell' = true) (hz : zs.size = 2) : Instr.fill (fun i => some (i * 1, 1)) zs [(0, u), (1, v)] = some #[u, v] := by
  obtain ⟨zl⟩ := zs
  match zl, hz with
  | [a, b], _ =>
    have hcu : u.cells = #[u] := by cases u <;> first | rfl | cases hu
    have hcv : v.cells = #[v] := by cases v <;> first | rfl | cases hv
    simp [Instr.fill, hcu, hcv]
/-- '[]int64{x, y}' -/
theorem r_lit2 {x y : Operand} {u v : Value} {e f : α} (hs1 : Nat.beq (GT.size P α) 1 = true) (ht : slB P t (GT.tid P α) = true) (hN : Nat.blt d N = true) (H : St w0 L w As) (hx : ev env x = some u) (hy : ev env y = some v) (he : GT.od P w [u] e []) (hf : GT.od P w [v] f [])
    (h : ∀ v w', Below w.heap.size w w' → St w0 L w' (As ++ [ownL P v [e, f]]) → rwp P N ops Q rest ((d, v) :: env) w') :
    rwp P N ops Q (⟨some d, .buildSlice t 2 #[(0, x), (1, y)], ty, pos, af, none⟩ :: rest) env w := by
  obtain ⟨i, z, hi, hz, hsz, hby, hzc⟩ := info_parts' (P := P) (α := α)
  have h1 : GT.size P α = 1 := Nat.eq_of_beq_eq_true hs1
  refine r_val (v := .slice (some ⟨w.heap.size, 0, none⟩) 2 2) (w' := w.alloc (.cells #[u, v] (GT.tid P α))) rfl rfl hN (fun a ha => ?_) (h _ _ (below_alloc _ _) (H.ext ?_))
  · have := run_buildSlice (P := P) w t (GT.tid P α) 2 #[(0, u), (1, v)] #[u, v] i z (slB_spec ht) hi hz (by rw [hsz, h1]; omega) (by rw [hsz, h1]; omega) (by rw [hsz, h1]; exact fill_two (GT.od_one he u (by simp)) (GT.od_one hf v (by simp)) (by simp))
    simp [execOp, ha.eval hx, ha.eval hy, this]
  · exact st_new (P := P) (w := w) (cs := [u, v]) (l := [e, f]) (cap := 2) (by simp) (by simp [maxLen]) (by simp [h1]) (f := [])
      (by rw [List.take_of_length_le (by simp [h1])]; exact ⟨[u], [v], [], [], rfl, rfl, he, [v], [], [], [], rfl, rfl, hf, rfl, rfl⟩) rfl
/-! make -/
theorem zeros_od (n : Nat) : ∀ (z : Array Value), z.toList = GT.zero P α → odAll P w ((madeCells z (n * GT.size P α)).toList) (List.replicate n (GT.z0 P (α := α))) [] := by
  intro z hz
  have hzs : z.size = GT.size P α := by rw [← zero_len (P := P) (α := α), ← hz]; simp
  have hpos := GT.pos (P := P) (α := α)
  have key : ∀ n, (madeCells z (n * GT.size P α)).toList = (List.replicate n z.toList).flatten := by
    intro n
    induction n with
    | zero => simp [madeCells, Array.range_zero']
    | succ n ih =>
      rw [List.replicate_succ', List.flatten_append, ← ih]
      simp only [madeCells, Array.toList_map, Array.toList_range, List.flatten_cons, List.flatten_nil, List.append_nil]
      rw [Nat.add_mul, Nat.one_mul, List.range_add, List.map_append, List.map_map]
      congr 1
      apply List.ext_getElem
      · simp [hzs]
      · intro j h1 h2
        simp only [List.getElem_map, List.getElem_range, Function.comp]
        have hj : j < z.size := by simpa using h2
        rw [hzs, Nat.mul_comm n, Nat.mul_add_mod, Nat.mod_eq_of_lt (by omega)]
        simp [hj]
  rw [key n, hz]
  induction n with
  | zero => exact ⟨rfl, rfl⟩
  | succ n ih => exact ⟨GT.zero P α, _, [], [], by simp [List.replicate_succ], rfl, GT.od_zero w, ih, ⟩
theorem r_make {x : Operand} {n : Int} (ht : slB P t (GT.tid P α) = true) (hsm : smB P α = true) (hN : Nat.blt d N = true) (H : St w0 L w As) (hx : ev env x = some (.int .i64 n)) (h0 : decide (0 ≤ n) = true) (hroom : decide (n ≤ 1099511627776) = true)
    (h : ∀ v w', Below w.heap.size w w' → St w0 L w' (As ++ [ownL P v (List.replicate n.toNat (GT.z0 P (α := α)))]) → rwp P N ops Q rest ((d, v) :: env) w') :
    rwp P N ops Q (⟨some d, .makeSlice t x x, ty, pos, af, none⟩ :: rest) env w := by
  obtain ⟨i, z, hi, hz, hsz, hby, hzc⟩ := info_parts' (P := P) (α := α)
  have h0' : 0 ≤ n := by simpa using h0
  have hr' : n ≤ 1099511627776 := by simpa using hroom
  have hb128 : GT.bytes P α ≤ 128 := by unfold smB at hsm; simpa using hsm
  have hbytes : (i.bytes : Int) * n ≤ 281474976710656 := by
    rw [hby]
    have h1 : (GT.bytes P α : Int) * n ≤ 128 * n := Int.mul_le_mul_of_nonneg_right (by omega) h0'
    omega
  have := run_make (P := P) w t (GT.tid P α) i z (slB_spec ht) hi hz .i64 .i64 n n h0' (Int.le_refl _) hbytes (by omega)
  refine r_val (v := .slice (some ⟨w.heap.size, 0, none⟩) n.toNat n.toNat) (w' := w.alloc (.cells (madeCells z.cells (n.toNat * i.size)) (GT.tid P α))) rfl rfl hN (fun a ha => by simp [execOp, ha.eval hx, this]) (h _ _ (below_alloc _ _) (H.ext ?_))
  have hod := zeros_od (P := P) (α := α) (w := w) n.toNat z.cells hzc
  have hl : (madeCells z.cells (n.toNat * i.size)).toList.length = n.toNat * GT.size P α := by rw [Array.length_toList, size_madeCells, hsz]
  have hs := st_new (P := P) (w := w) (cs := (madeCells z.cells (n.toNat * i.size)).toList) (l := List.replicate n.toNat (GT.z0 P (α := α))) (cap := n.toNat) (by simp) (by unfold maxLen; omega) hl (f := [])
    (by rw [List.take_of_length_le (by rw [hl]; simp), hsz]; exact hod) rfl
  rw [Array.toArray_toList] at hs
  simpa using hs

/-! elements of a slice of the call's own -/
theorem r_index_own {x y : Operand} {v : Value} {j : IntKind} {i : Int} {l : List α} {e : α} {k : Nat} (ht : slB P t (GT.tid P α) = true) (hN : Nat.blt d N = true)
    (H : St w0 L w As) (hk : As[k]? = some (ownL P v l)) (hx : ev env x = some v) (hy : ev env y = some (.int j i)) (h0 : 0 ≤ i) (he : l[i.toNat]? = some e)
    (h : ∀ p, PO (GT.size P α) v i.toNat 0 p → PR P w w.heap.size p e → rwp P N ops Q rest ((d, .pointer (some p)) :: env) w) : rwp P N ops Q (⟨some d, .indexAddr t x y, ty, pos, af, none⟩ :: rest) env w := by
  have hil : i.toNat < l.length := (List.getElem?_eq_some_iff.1 he).1
  have hr := H.rdl hk
  obtain ⟨fp, ⟨u, xs, g, hv, hown, hall, rfl⟩, hfp⟩ := H.get hk
  simp only [List.cons.injEq, and_true] at hv
  subst hv
  obtain ⟨ie, u, hi, hs, hu, -⟩ := tiB_spec (GT.ti (P := P) (α := α))
  rcases hown.2 with ⟨rfl, hn⟩ | ⟨b, cap, cur, rfl, -, hbk, hnc, hcm, hsz, htk⟩
  · omega
  · have hrun := run_indexAt (P := P) (w := w) (p := ⟨b, 0, none⟩) (n := l.length) (c := cap) (k := j) (slB_spec ht) hi h0 (show i < (l.length : Int) by omega)
    refine r_val (v := .pointer (some ((⟨b, 0, none⟩ : Addr).add (i.toNat * GT.size P α)))) (w' := w) rfl rfl hN (fun a ha => by simp [execOp, ha.eval hx, ha.eval hy, hrun, hs]) (h _ ?_ ?_)
    · have : PO (GT.size P α) (.slice (some ⟨b, 0, none⟩) l.length cap) 0 0 ⟨b, 0, none⟩ := by simp [PO, Value.ownBlock]
      have h2 := this.add (i.toNat * GT.size P α)
      unfold PO at h2 ⊢
      simpa using h2
    · obtain ⟨u2, hu2, -, h3⟩ := hr
      simp only [List.cons.injEq, and_true] at hu2
      subst hu2
      rcases h3 with ⟨h3, -⟩ | ⟨a, cap', xs', h3, h4, h5, h6, h7, h8⟩
      · cases h3
      · simp only [Value.slice.injEq, Option.some.injEq, true_and] at h3
        obtain ⟨rfl, rfl⟩ := h3
        obtain ⟨cs, hcs, hat⟩ := rdAll_get h8 he
        have hlen := GT.rd_len hcs
        have hpos := GT.pos (P := P) (α := α)
        have hne : xs' ≠ [] := by
          rintro rfl
          have := hat 0 (cs[0]'(by omega)) (List.getElem?_eq_getElem _)
          cases this
        refine ⟨by rw [block_add]; exact h6 hne, cs, fun j u hu' => ?_, hcs⟩
        rw [add_add]
        exact h7 _ u (hat j u hu')
theorem r_sto {x y : Operand} {v val : Value} {i off k : Nat} {l : List α} {e e' : α} {p : Addr} {vs : List Value} (H : St w0 L w As) (hk : As[k]? = some (ownL P v l)) (hp : PO (GT.size P α) v i off p) (he : l[i]? = some e)
    (hx : ev env x = some (.pointer (some p))) (hy : ev env y = some val) (hv : val.cells.toList = vs) {agg : Bool} (hsz : tiB P t vs.length agg = true) (h1 : ∀ u ∈ vs, u.oneCell' = true) (hin : Nat.ble (off + vs.length) (GT.size P α) = true)
    (hod : ∀ (w : World) cs f, GT.od P w cs e f → GT.od P w (splice cs off vs) e' f)
    (h : ∀ w', w'.heap.size = w.heap.size → St w0 L w' (As.set k (ownL P v (l.set i e'))) → rwp P N ops Q rest env w') :
    rwp P N ops Q (⟨none, .store t x y, ty, pos, af, none⟩ :: rest) env w := by
  have hin' : off + vs.length ≤ GT.size P α := by simpa using hin
  obtain ⟨it, ut, hit, hst, hut, hat⟩ := tiB_spec hsz
  obtain ⟨fp, ⟨u, xs, g, hvv, hown, hall, rfl⟩, hnd, hfp, hclose⟩ := H.open_ hk
  simp only [List.cons.injEq, and_true] at hvv
  subst hvv
  obtain ⟨b, hb, rfl⟩ := hp.nth
  have hil : i < l.length := (List.getElem?_eq_some_iff.1 he).1
  rcases hown.2 with ⟨rfl, hn⟩ | ⟨b', cap, cur, rfl, -, hbk, hnc, hcm, hcs, htk⟩
  · cases hb
  · simp only [Value.ownBlock, Option.some.injEq] at hb
    subst hb
    obtain ⟨xs1, cs, xs2, f1, f, f2, rfl, hl1, rfl, hodE, hset⟩ := odAll_set hall he
    have hcl := GT.od_len hodE
    have hxl := hown.1
    simp only [List.length_append, hl1, hcl] at hxl
    have hcur : cur.toList = xs1 ++ cs ++ xs2 ++ cur.toList.drop (l.length * GT.size P α) := by rw [← htk, List.take_append_drop]
    have hle : i * GT.size P α + off + vs.length ≤ cur.size := by
      have h1 : l.length * GT.size P α ≤ cap * GT.size P α := Nat.mul_le_mul_right _ hnc
      rw [hcs]; omega
    have hrun := run_storeCells_at (P := P) b' (i * GT.size P α + off) (GT.tid P α) vs 0 cur w hbk (by simpa using hle) h1
    simp only [Nat.add_zero] at hrun
    have hnew : cur.toList.take (i * GT.size P α + off) ++ vs ++ cur.toList.drop (i * GT.size P α + off + vs.length) = xs1 ++ splice cs off vs ++ xs2 ++ cur.toList.drop (l.length * GT.size P α) := by
      conv => lhs; rw [hcur]
      have e1 : (xs1 ++ cs ++ xs2 ++ cur.toList.drop (l.length * GT.size P α)).take (i * GT.size P α + off) = xs1 ++ cs.take off := by
        rw [List.append_assoc, List.append_assoc, ← hl1, List.take_length_add_append, List.take_append_of_le_length (by omega)]
      have e2 : (xs1 ++ cs ++ xs2 ++ cur.toList.drop (l.length * GT.size P α)).drop (i * GT.size P α + off + vs.length) = cs.drop (off + vs.length) ++ xs2 ++ cur.toList.drop (l.length * GT.size P α) := by
        rw [List.append_assoc, List.append_assoc, ← hl1, Nat.add_assoc, List.drop_length_add_append, List.drop_append_of_le_length (by omega)]
        simp
      rw [e1, e2]
      simp [splice]
    rw [hnew] at hrun
    obtain ⟨g1, g2, g3, g4, g5, g6⟩ := setRow_frame w b' cur (xs1 ++ splice cs off vs ++ xs2 ++ cur.toList.drop (l.length * GT.size P α)).toArray (GT.tid P α) hbk
    have hspl : (splice cs off vs).length = GT.size P α := by simp [splice, hcl]; omega
    refine r_unit (w' := w.setRow b' (xs1 ++ splice cs off vs ++ xs2 ++ cur.toList.drop (l.length * GT.size P α)).toArray) rfl rfl (fun a ha => ?_) (h _ g4 (hclose _ (ownL P (.slice (some ⟨b', 0, none⟩) l.length cap) (l.set i e')) g1 g2 g3 (Nat.le_of_eq g4.symm) (fun c hc hn => g5 c (fun e => hn (by subst e; simp [Value.ownBlock]))) ⟨b' :: (f1 ++ f ++ f2), ?_, by simpa [Value.ownBlock] using hnd, fun c hc => .inl (by simpa [Value.ownBlock] using hc)⟩))
    · have hvc : val.cells.size = vs.length := by rw [← hv]; simp
      simp [execOp, ha.eval hx, ha.eval hy, Instr.storeAt, Instr.sureAddr, storeVar, hvc, run_sizeOf hit, hst, hv, hrun]
    · have hbn : b' ∉ f1 ++ f ++ f2 := by
        simp only [Value.ownBlock, Option.toList_some, List.cons_append, List.nil_append, List.nodup_cons] at hnd
        exact hnd.1
      refine ⟨_, xs1 ++ splice cs off vs ++ xs2, f1 ++ f ++ f2, rfl, ⟨by simp [hl1, hspl]; omega, .inr ⟨b', cap, _, by simp, Nat.zero_le _, g6, by simpa using hnc, hcm, ?_, ?_⟩⟩, ?_, by simp [Value.ownBlock]⟩
      · have := congrArg List.length hcur
        simp only [Array.length_toList, List.length_append, hl1, hcl] at this
        simp only [List.size_toArray, List.length_append, hl1, hspl]
        omega
      · simp only [List.length_set]
        rw [List.take_append_of_le_length (by simp [hl1, hspl]; omega), List.take_of_length_le (by simp [hl1, hspl]; omega)]
      · refine hset _ (splice cs off vs) e' f (fun c hc => g5 c (fun e => hbn (by subst e; rcases List.mem_append.1 hc with h | h <;> simp [h]))) ?_
        refine GT.od_keep (w := w) (fun c hc => g5 c (fun e => hbn (by subst e; simp [hc]))) (hod w cs f hodE)
end
end Go.GL

namespace Go.GL
open Go Go.RowKit

/-! ## 10. The functional side: Option programs -/
section
variable {α β ρ σ : Type}
def idx (l : List α) (i : Int) (k : α → Option β) : Option β := if 0 ≤ i then (match l[i.toNat]? with | some x => k x | none => none) else none
theorem idx_some {l : List α} {i : Int} {k : α → Option β} {r : β} (h : idx l i k = some r) : ∃ x, 0 ≤ i ∧ l[i.toNat]? = some x ∧ k x = some r := by
  unfold idx at h
  split at h
  · rename_i h0
    cases hx : l[i.toNat]? with
    | none => rw [hx] at h; cases h
    | some x => rw [hx] at h; exact ⟨x, h0, rfl, h⟩
  · cases h
theorem idx_eq {l : List α} {i : Int} {k : α → Option β} {x : α} (h0 : 0 ≤ i) (hx : l[i.toNat]? = some x) : idx l i k = k x := by simp [idx, h0, hx]
theorem idx_nat {l : List α} {i : Nat} {k : α → Option β} (h : i < l.length) : idx l (i : Int) k = k l[i] := by
  rw [idx_eq (x := l[i]) (by omega)]; simp [List.getElem?_eq_getElem h]
def grd (b : Bool) (k : Option β) : Option β := bif b then k else none
theorem grd_some {b : Bool} {k : Option β} {r : β} (h : grd b k = some r) : b = true ∧ k = some r := by
  cases b
  · cases h
  · exact ⟨rfl, h⟩
@[simp] theorem grd_true {k : Option β} : grd true k = k := rfl
theorem grd_eq {b : Bool} {k : Option β} (h : b = true) : grd b k = k := by rw [h]; rfl
theorem bnd_some {o : Option α} {k : α → Option β} {r : β} (h : o.bind k = some r) : ∃ x, o = some x ∧ k x = some r := Option.bind_eq_some_iff.1 h
theorem bif_t {c : Bool} {A B : Option β} {r : β} (hc : c = true) (h : (bif c then A else B) = some r) : A = some r := by rw [hc] at h; exact h
theorem bif_f {c : Bool} {A B : Option β} {r : β} (hc : c = false) (h : (bif c then A else B) = some r) : B = some r := by rw [hc] at h; exact h
theorem some_inj {a b : α} (h : some a = some b) : a = b := Option.some.inj h
/-- behind a loop: the function has returned, or goes on -/
def sumK (o : Sum ρ σ) (f : ρ → Option β) (g : σ → Option β) : Option β := match o with | .inl r => f r | .inr s => g s
theorem sumK_l {r : ρ} {f : ρ → Option β} {g : σ → Option β} {x : β} (h : sumK (.inl r) f g = some x) : f r = some x := h
theorem sumK_r {s : σ} {f : ρ → Option β} {g : σ → Option β} {x : β} (h : sumK (.inr s) f g = some x) : g s = some x := h
end
section
variable {α β : Type}
def app (l m : List α) (k : List α → Option β) : Option β := grd (decide (l.length + m.length ≤ roomN)) (k (l ++ m))
theorem app_some {α β : Type} {l m : List α} {k : List α → Option β} {r : β} (h : app l m k = some r) : decide (l.length + m.length ≤ roomN) = true ∧ k (l ++ m) = some r := grd_some h
def cat (a b : Bytes) (k : Bytes → Option β) : Option β := grd (decide (a.length + b.length ≤ 4611686018427387904)) (k (a ++ b))
theorem cat_some {β : Type} {a b : Bytes} {k : Bytes → Option β} {r : β} (h : cat a b k = some r) : decide (a.length + b.length ≤ 4611686018427387904) = true ∧ k (a ++ b) = some r := grd_some h
def mk (z : α) (n : Int) (k : List α → Option β) : Option β := grd (decide (0 ≤ n)) (grd (decide (n ≤ 1099511627776)) (k (List.replicate n.toNat z)))
theorem mk_some {α β : Type} {z : α} {n : Int} {k : List α → Option β} {r : β} (h : mk z n k = some r) : decide (0 ≤ n) = true ∧ decide (n ≤ 1099511627776) = true ∧ k (List.replicate n.toNat z) = some r :=
  let ⟨a, b⟩ := grd_some h; let ⟨c, d⟩ := grd_some b; ⟨a, c, d⟩
def dvd (b : Int) (k : Option β) : Option β := grd (!(b == 0)) k
theorem dvd_some {β : Type} {b : Int} {k : Option β} {r : β} (h : dvd b k = some r) : (b == 0) = false ∧ k = some r := let ⟨a, c⟩ := grd_some h; ⟨by simpa using a, c⟩
def shc (b : Int) (k : Option β) : Option β := grd (!decide (b < 0)) k
theorem shc_some {β : Type} {b : Int} {k : Option β} {r : β} (h : shc b k = some r) : decide (b < 0) = false ∧ k = some r := let ⟨a, c⟩ := grd_some h; ⟨by simpa using a, c⟩
/-- s[i:j] -/
def sub (l : List α) (i j : Int) (k : List α → Option β) : Option β := grd (decide (0 ≤ i) && decide (i ≤ j) && decide (j ≤ (l.length : Int))) (k ((l.take j.toNat).drop i.toNat))
theorem sub_some {α β : Type} {l : List α} {i j : Int} {k : List α → Option β} {r : β} (h : sub l i j k = some r) : (0 ≤ i ∧ i ≤ j ∧ j ≤ (l.length : Int)) ∧ k ((l.take j.toNat).drop i.toNat) = some r := by
  obtain ⟨a, b⟩ := grd_some h
  simp only [Bool.and_eq_true, decide_eq_true_eq] at a
  exact ⟨⟨a.1.1, a.1.2, a.2⟩, b⟩
end
/-- the least number that is an int stays as it is under 'wrap' -/
abbrev W64 (n : Int) : Int := IntKind.i64.wrap n
theorem W64_id {n : Int} (h1 : -9223372036854775808 ≤ n) (h2 : n ≤ 9223372036854775807) : IntKind.i64.wrap n = n := by
  rw [IntKind.wrap_i64]; omega

section
variable {P : Program} {N : Nat} {Q : Exit → Act → World → Prop} {env : Env} {w w' w0 : World} {ops : Array Oper} {rest : List Oper}
  {d : Nat} {t ty : TypeId} {pos : String} {af : Array Edge} {L : List Nat} {As R : List HP}
  {α : Type} [GT P α]
/-! ## 11. More operations -/
theorem r_len_own {x : Operand} {xt : TypeId} {v : Value} {l : List α} {k : Nat} (ht : slB P xt (GT.tid P α) = true) (hN : Nat.blt d N = true) (H : St w0 L w As) (hk : As[k]? = some (ownL P v l)) (hx : ev env x = some v) (h : rwp P N ops Q rest ((d, .int .i64 l.length) :: env) w) :
    rwp P N ops Q (⟨some d, .call { callee := .builtin .len, args := #[x], argTypes := #[xt] }, ty, pos, af, none⟩ :: rest) env w := by
  obtain ⟨p, c, rfl⟩ := H.llen hk
  exact r_len (slB_spec ht) hN hx h
theorem r_len_rd {x : Operand} {xt : TypeId} {v : Value} {l : List α} {wq : World} {B : Nat} (ht : slB P xt (GT.tid P α) = true) (hN : Nat.blt d N = true) (hr : rdL P wq B [v] l) (hx : ev env x = some v) (h : rwp P N ops Q rest ((d, .int .i64 l.length) :: env) w) :
    rwp P N ops Q (⟨some d, .call { callee := .builtin .len, args := #[x], argTypes := #[xt] }, ty, pos, af, none⟩ :: rest) env w := by
  obtain ⟨p, c, rfl⟩ := hr.shape
  exact r_len (slB_spec ht) hN hx h
theorem oneCell_cells {v : Value} (h : v.oneCell' = true) : v.cells = #[v] := by cases v <;> first | rfl | cases h
/-- a struct literal: all fields are of one cell each -/
def stB (P : Program) (t : TypeId) (n : Nat) : Bool :=
  match P.underlying t with
  | some (.struct fs) => fs.toList.zipIdx.all (fun (f, i) => f.offset == i && (match P.info? f.type with | some j => j.size == 1 | none => false)) && fs.size == n
  | _ => false
theorem run_map_places {fs : List Field} (h : ∀ f ∈ fs, ∃ j, P.info? f.type = some j ∧ j.size = 1) : (fs.mapM fun f => (Functor.map (Prod.mk f.offset) (sizeOf f.type) : Sem (Nat × Nat))).run P w = .ok (fs.map fun f => (f.offset, 1)) w := by
  induction fs with
  | nil => simp
  | cons f r ih =>
    obtain ⟨j, hj, hs⟩ := h f (by simp)
    simp [List.mapM_cons, run_sizeOf hj, hs, ih (fun g hg => h g (by simp [hg]))]
theorem fill_ones {n : Nat} : ∀ (parts : List (Nat × Value)) (zs : List Value), zs.length = n → (∀ p ∈ parts, p.1 < n ∧ p.2.oneCell' = true) →
    Instr.fill (fun i => if i < n then some (i, 1) else none) zs.toArray parts = some (parts.foldl (fun cs p => cs.set p.1 p.2) zs).toArray := by
  intro parts
  induction parts with
  | nil => intro zs _ _; rfl
  | cons p r ih =>
    intro zs hz hp
    obtain ⟨i, v⟩ := p
    obtain ⟨h1, h2⟩ := hp (i, v) (by simp)
    simp only at h1 h2
    have hc := oneCell_cells h2
    have hlt : ¬ (i + 1 > n) := by omega
    simp only [Instr.fill, h1, if_true, hc]
    have : ¬ ((decide ((#[v] : Array Value).size ≠ 1) || decide (i + (#[v] : Array Value).size > zs.toArray.size)) = true) := by simp [hz]; exact h1
    rw [if_neg this]
    simp only [List.foldl_cons]
    rw [← ih (zs.set i v) (by simp [hz]) (fun q hq => hp q (by simp [hq]))]
    congr 1
    simp
theorem r_build {parts : List (Nat × Operand)} {vs : List (Nat × Value)} {zs : List Value} (hs : stB P t zs.length = true) (hz : zB P t zs) (hN : Nat.blt d N = true)
    (hp : ∀ a, Rel N env a → parts.map (fun p => (p.1, a.eval p.2)) = vs) (hv : ∀ p ∈ vs, p.1 < zs.length ∧ p.2.oneCell' = true)
    (h : rwp P N ops Q rest ((d, .agg (vs.foldl (fun cs p => cs.set p.1 p.2) zs).toArray) :: env) w) : rwp P N ops Q (⟨some d, .build t parts.toArray, ty, pos, af, none⟩ :: rest) env w := by
  unfold stB at hs
  split at hs
  · rename_i fs hu
    simp only [Bool.and_eq_true, beq_iff_eq] at hs
    obtain ⟨hs1, hs2⟩ := hs
    unfold zB at hz
    cases hi : P.info? t with
    | none => rw [hi] at hz; cases hz
    | some i =>
      rw [hi] at hz
      cases hzz : i.zero with
      | none => simp [hzz] at hz
      | some z =>
        simp only [Option.map_some, hzz] at hz
        simp only [Option.some.injEq] at hz
        rw [List.all_eq_true] at hs1
        have hfs : ∀ f ∈ fs.toList, ∃ j, P.info? f.type = some j ∧ j.size = 1 := by
          intro f hf
          obtain ⟨k, hk, rfl⟩ := List.getElem_of_mem hf
          have := hs1 (fs.toList[k], k) (by rw [List.mem_zipIdx_iff_getElem?]; exact List.getElem?_eq_getElem hk)
          simp only [Bool.and_eq_true] at this
          obtain ⟨_, h2⟩ := this
          split at h2
          · rename_i j hj; exact ⟨j, hj, by simpa using h2⟩
          · cases h2
        have hoff : ∀ k (hk : k < fs.toList.length), (fs.toList[k]).offset = k := by
          intro k hk
          have := hs1 (fs.toList[k], k) (by rw [List.mem_zipIdx_iff_getElem?]; exact List.getElem?_eq_getElem hk)
          simp only [Bool.and_eq_true, beq_iff_eq] at this
          exact this.1
        have hplaces : (fs.mapM fun f => (Functor.map (Prod.mk f.offset) (sizeOf f.type) : Sem (Nat × Nat))).run P w = .ok (fs.toList.map fun f => (f.offset, 1)).toArray w := by
          have := run_map_places (w := w) hfs
          rw [Array.mapM_eq_mapM_toList]
          simp [this]
        have hpl : (fun k => Option.map (fun f : Field => (f.offset, 1)) fs[k]?) = fun k => if k < zs.length then some (k, 1) else none := by
          funext k
          rw [← Array.getElem?_toList]
          by_cases hk : k < fs.toList.length
          · rw [if_pos (by rw [← hs2]; simpa using hk), List.getElem?_eq_getElem hk, Option.map_some, hoff k hk]
          · rw [if_neg (by rw [← hs2]; simpa using hk), List.getElem?_eq_none (Nat.le_of_not_lt hk), Option.map_none]
        have hfill := fill_ones vs zs rfl hv
        have hzc : z.cells = zs.toArray := by rw [← hz]
        refine r_val rfl rfl hN (fun a ha => ?_) h
        have hps := hp a ha
        have hplaces' := hplaces
        simp only [execOp, Instr.build, List.map_toArray, hps]
        simp [zeroValue, typeInfo, hi, hzz, run_underlying hu, hplaces', hpl, hzc, hfill]
  · cases hs
end

/-! ## 12. What the generated proofs use -/
section
variable {P : Program} {N : Nat} {Q : Exit → Act → World → Prop} {env : Env} {w w' w0 : World} {L : List Nat} {As : List HP} {α : Type} [GT P α]
theorem boolz : (∀ a : Bool, (a && true) = a) ∧ (∀ a : Bool, (true && a) = a) ∧ (∀ a : Bool, (a && false) = false) ∧ (∀ a : Bool, (false && a) = false) ∧ (∀ a : Bool, (a || true) = true) ∧ (∀ a : Bool, (true || a) = true) ∧ (∀ a : Bool, (a || false) = a) ∧ (∀ a : Bool, (false || a) = a) ∧ (∀ a b : Bool, cond true a b = a) ∧ (∀ a b : Bool, cond false a b = b) ∧ ((!true) = false) ∧ ((!false) = true) := by
  simp
theorem bv {c b : Bool} (h : c = b) : some (Value.bool c) = some (Value.bool b) := by rw [h]
theorem q_then_n {y : Code} (env' : Env) (hs : Env.All env env') (h : cwp P N y Q env' w) : qwp N (Exit.then (y.wp P Q) Q .normal) env w := fun a ha => h a (ha.sub hs.mem)
theorem q_then_x {K : Act → World → Prop} {id : Nat} (h : qwp N (Q (.exit id)) env w) : qwp N (Exit.then K Q (.exit id)) env w := h
theorem q_block_n {id : Nat} (h : qwp N (Q .normal) env w) : qwp N (Exit.inBlock id Q .normal) env w := h
theorem q_block_hit {id : Nat} (h : qwp N (Q .normal) env w) : qwp N (Exit.inBlock id Q (.exit id)) env w := fun a ha => by simp only [Exit.inBlock, if_true]; exact h a ha
theorem q_block_miss {id j : Nat} (hn : Nat.beq j id = false) (h : qwp N (Q (.exit j)) env w) : qwp N (Exit.inBlock id Q (.exit j)) env w := fun a ha => by
  simp only [Exit.inBlock, if_neg (Nat.ne_of_beq_eq_false hn)]; exact h a ha
theorem q_cut_x {J : Env → World → Prop} {id : Nat} (h : qwp N (Q (.exit id)) env w) : qwp N (cutQ N J Q (.exit id)) env w := h
theorem q_loop_x {I : Nat → Env → World → Prop} {n id : Nat} (h : qwp N (Q (.exit id)) env w) : qwp N (loopQ N I n Q (.exit id)) env w := h
theorem rdL_at {wq : World} {v : Value} {l : List α} (hb : Below wq.heap.size wq w) (hr : rdL P wq wq.heap.size [v] l) : rdL P w w.heap.size [v] l := rdL_more hb.size (rdL_keep hb hr)
theorem rd_at {wq : World} {cs : List Value} {x : α} (hb : Below wq.heap.size wq w) (hr : GT.rd P wq wq.heap.size cs x) : GT.rd P w w.heap.size cs x := GT.rd_more hb.size (GT.rd_keep hb hr)
theorem PR_at {wq : World} {p : Addr} {x : α} (hb : Below wq.heap.size wq w) (hr : PR P wq wq.heap.size p x) : PR P w w.heap.size p x := by
  obtain ⟨h1, h2⟩ := hr.keep hb
  obtain ⟨cs, h3, h4⟩ := h2
  exact ⟨Nat.lt_of_lt_of_le h1 hb.size, cs, h3, GT.rd_more hb.size h4⟩
theorem St.nil (h : St w0 L w As) : St w0 L w [] := by
  obtain ⟨fp, hs, hn, hb⟩ := h.sep
  exact ⟨h.os, h.tape, h.output, h.size, h.block, [], rfl, List.nodup_nil, fun b hb => by cases hb⟩
theorem St.take (h : St w0 L w As) (n : Nat) : St w0 L w (As.take n) := by
  induction As generalizing n with
  | nil => simpa using h
  | cons A r ih =>
    cases n with
    | zero => exact h.nil
    | succ n =>
      have h2 : ∀ (m : Nat) (Bs : List HP), St w0 L w (Bs ++ r) → St w0 L w (Bs ++ r.take n) := by
        intro m Bs hB
        obtain ⟨fp, hs, hn, hb⟩ := hB.sep
        obtain ⟨f, g, rfl, h1, h2⟩ : ∃ f g, fp = f ++ g ∧ SepL w Bs f ∧ SepL w r g := by
          clear hn hb hB h ih
          induction Bs generalizing fp with
          | nil => exact ⟨[], fp, rfl, rfl, hs⟩
          | cons B Bs ihB =>
            obtain ⟨f1, g1, hB, hr, rfl⟩ := hs
            obtain ⟨f2, g2, rfl, h3, h4⟩ := ihB _ hr
            exact ⟨f1 ++ f2, g2, by simp, ⟨f1, f2, hB, h3, rfl⟩, h4⟩
        obtain ⟨g', hg', hsub⟩ : ∃ g', SepL w (r.take n) g' ∧ g'.Sublist g := by
          clear hn hb hB h ih hs h1
          induction r generalizing n g with
          | nil => exact ⟨[], by simp [SepL], by cases h2; exact List.Sublist.refl _⟩
          | cons C r ihr =>
            obtain ⟨f1, g1, hC, hr, rfl⟩ := h2
            cases n with
            | zero => exact ⟨[], rfl, List.nil_sublist _⟩
            | succ n =>
              obtain ⟨g2, h5, h6⟩ := ihr n g1 hr
              exact ⟨f1 ++ g2, ⟨f1, g2, hC, h5, rfl⟩, List.Sublist.append (List.Sublist.refl _) h6⟩
        have hsub2 : (f ++ g').Sublist (f ++ g) := List.Sublist.append (List.Sublist.refl _) hsub
        exact ⟨hB.os, hB.tape, hB.output, hB.size, hB.block, f ++ g', h1.app hg', hn.sublist hsub2, fun b hbm => hb b (hsub2.subset hbm)⟩
      simpa using h2 0 [A] (by simpa using h)
theorem St.addnil (h : St w0 L w As) (P : Program) (α : Type) [GT P α] : St w0 L w (As ++ [ownL P (.slice none 0 0) ([] : List α)]) :=
  h.ext ⟨rfl, rfl, rfl, Nat.le_refl _, fun _ _ _ => rfl, [], ⟨[], [], ⟨_, [], [], rfl, World.ownsRow_nil w 0 _ _, ⟨rfl, rfl⟩, rfl⟩, rfl, rfl⟩, List.nodup_nil, fun b hb => by cases hb⟩
theorem rdL.onec {B : Nat} {v : Value} {l : List α} (h : rdL P w B [v] l) : v.oneCell' = true := rdL_one h v (by simp)
theorem St.lone {v : Value} {l : List α} {k : Nat} (h : St w0 L w As) (hk : As[k]? = some (ownL P v l)) : v.oneCell' = true := (h.rdl hk).onec
def Ones : List Value → Prop
  | [] => True
  | v :: r => v.oneCell' = true ∧ Ones r
theorem Ones.all : ∀ {l : List Value}, Ones l → ∀ u ∈ l, u.oneCell' = true
  | v :: r, ⟨h1, h2⟩, u, hu => by
    rcases List.mem_cons.1 hu with rfl | hu
    · exact h1
    · exact h2.all u hu
end
end Go.GL

namespace Go.GL
open Go Go.RowKit
section
variable {P : Program} {N : Nat} {Q : Exit → Act → World → Prop} {env : Env} {w w' w0 wq : World} {ops : Array Oper} {rest : List Oper}
  {d : Nat} {t ty : TypeId} {pos : String} {af : Array Edge} {L : List Nat} {As R : List HP}
  {α : Type} [GT P α]
theorem c_cutl {x : Code} (J : Env → World → Prop) (h1 : cwp P N x (cutQ N J Q) env w) (h2 : ∀ env w, J env w → qwp N (Q .normal) env w) : cwp P N x Q env w := by
  intro a ha
  refine wp_mono (h1 a ha) ?_
  intro e a' w' hq
  cases e with
  | normal => obtain ⟨env', hr, hJ⟩ := hq; exact h2 env' w' hJ a' hr
  | exit id => exact hq
  | goto l => exact hq
  | ret => exact hq
  | panic ch => exact hq
  | outgrown => exact hq
theorem bvs {u c : Bool} (h : u = c) : some (Value.bool u) = some (Value.bool c) := by rw [h]
theorem not_of {c : Bool} (h : (!c) = true) : c = false := by simpa using h
theorem not_of_f {c : Bool} (h : (!c) = false) : c = true := by simpa using h
theorem rdL_nil (P : Program) (α : Type) [GT P α] (w : World) (B : Nat) : rdL P w B [.slice none 0 0] ([] : List α) := ⟨_, rfl, by simp, .inl ⟨rfl, rfl⟩⟩
def PartsOk (n : Nat) : List (Nat × Value) → Prop
  | [] => True
  | p :: r => (p.1 < n ∧ p.2.oneCell' = true) ∧ PartsOk n r
theorem parts_ok {n : Nat} : ∀ {vs : List (Nat × Value)}, PartsOk n vs → ∀ p ∈ vs, p.1 < n ∧ p.2.oneCell' = true
  | _ :: _, ⟨h1, h2⟩, p, hp => by
    rcases List.mem_cons.1 hp with rfl | hp
    · exact h1
    · exact parts_ok h2 p hp
/-- the parts of a struct literal, read in the frame -/
theorem r_build' {parts : List (Nat × Operand)} {vs : List (Nat × Value)} {zs : List Value} (hs : stB P t zs.length = true) (hz : zB P t zs) (hN : Nat.blt d N = true)
    (hp : evs env (parts.map (·.2)) (vs.map (·.2))) (hi : parts.map (·.1) = vs.map (·.1)) (hv : ∀ p ∈ vs, p.1 < zs.length ∧ p.2.oneCell' = true)
    (h : rwp P N ops Q rest ((d, .agg (vs.foldl (fun cs p => cs.set p.1 p.2) zs).toArray) :: env) w) : rwp P N ops Q (⟨some d, .build t parts.toArray, ty, pos, af, none⟩ :: rest) env w := by
  refine r_build hs hz hN (fun a ha => ?_) hv h
  have h1 := Rel.evs ha hp
  clear h hv hs hz hp
  induction parts generalizing vs with
  | nil => cases vs <;> simp_all
  | cons p r ih =>
    cases vs with
    | nil => simp at hi
    | cons v vs =>
      simp only [List.map_cons, List.cons.injEq] at hi h1 ⊢
      exact ⟨by rw [hi.1, h1.1], ih hi.2 h1.2⟩
/-! results that lie in variables -/
theorem c_retc {fn : Func} {R : Ending → World → Prop} {v : Value} (hQ : ∀ a w, bodyPost P fn R .ret a w → Q .ret a w) (hR : R (.returned v) w) (hr : ∀ a, Rel N env a → (results fn a.tmps).run P w = .ok v w) : cwp P N .ret Q env w := c_ret hr hR hQ
/-- one result's reading -/
def ResOk (P : Program) (N : Nat) (env : Env) (w : World) (r : ResultVar) (v : Value) : Prop := ∀ a, Rel N env a → (match r with
  | .tmp t => (pure (a.tmps.getD t undef) : Sem Value)
  | .cell p t => do Instr.loadAt t (a.tmps.getD p undef)).run P w = .ok v w
theorem imax_eq : True := trivial
def imax (a b : Int) : Int := if b > a then b else a
def imin (a b : Int) : Int := if b < a then b else a
theorem r_max {x y : Operand} {xt yt : TypeId} {k : IntKind} {a b : Int} (hN : Nat.blt d N = true) (hx : ev env x = some (.int k a)) (hy : ev env y = some (.int k b)) (h : rwp P N ops Q rest ((d, .int k (imax a b)) :: env) w) :
    rwp P N ops Q (⟨some d, .call { callee := .builtin .max, args := #[x, y], argTypes := #[xt, yt] }, ty, pos, af, none⟩ :: rest) env w :=
  r_val rfl rfl hN (fun _ ha => by simp [execOp, ha.eval hx, ha.eval hy, resolve, invoke, builtin, Builtin.max_, Builtin.max2, imax]) h
theorem r_min {x y : Operand} {xt yt : TypeId} {k : IntKind} {a b : Int} (hN : Nat.blt d N = true) (hx : ev env x = some (.int k a)) (hy : ev env y = some (.int k b)) (h : rwp P N ops Q rest ((d, .int k (imin a b)) :: env) w) :
    rwp P N ops Q (⟨some d, .call { callee := .builtin .min, args := #[x, y], argTypes := #[xt, yt] }, ty, pos, af, none⟩ :: rest) env w :=
  r_val rfl rfl hN (fun _ ha => by simp [execOp, ha.eval hx, ha.eval hy, resolve, invoke, builtin, Builtin.min_, Builtin.min2, imin]) h
/-! parts of strings -/
theorem r_ssl_yy {x y z : Operand} {xt : TypeId} {a : Bytes} {i j : Int} {k k' : IntKind} (ht : P.underlying xt = some .string) (hN : Nat.blt d N = true) (hx : ev env x = some (.string (BS a))) (hi : ev env y = some (.int k i)) (hj : ev env z = some (.int k' j)) (hb : 0 ≤ i ∧ i ≤ j ∧ j ≤ (a.length : Int))
    (h : rwp P N ops Q rest ((d, .string (BS ((a.take j.toNat).drop i.toNat))) :: env) w) : rwp P N ops Q (⟨some d, .slice xt x (some y) (some z) none, ty, pos, af, none⟩ :: rest) env w := by
  refine r_val rfl rfl hN (fun b hb' => ?_) h
  have h1 : (0 : Int) ≤ j := by omega
  have h2 : j ≤ ((BS a).size : Int) := by rw [BS_size]; exact hb.2.2
  have h3 : i ≤ (j.toNat : Int) := by omega
  simp [execOp, hb'.eval hx, hb'.eval hi, hb'.eval hj, Instr.sliceAt, Instr.slice, run_underlying ht, Instr.sliceBounds, Instr.sliceBound, asIntOf, h1, h2, hb.1, BS_extract]
  intro hlt; exfalso; omega
theorem r_ssl_yn {x y : Operand} {xt : TypeId} {a : Bytes} {i : Int} {k : IntKind} (ht : P.underlying xt = some .string) (hN : Nat.blt d N = true) (hx : ev env x = some (.string (BS a))) (hi : ev env y = some (.int k i)) (hb : 0 ≤ i ∧ i ≤ (a.length : Int) ∧ (a.length : Int) ≤ (a.length : Int))
    (h : rwp P N ops Q rest ((d, .string (BS ((a.take (a.length : Int).toNat).drop i.toNat))) :: env) w) : rwp P N ops Q (⟨some d, .slice xt x (some y) none none, ty, pos, af, none⟩ :: rest) env w := by
  refine r_val rfl rfl hN (fun b hb' => ?_) h
  have h3 : i ≤ ((BS a).size : Int) := by rw [BS_size]; exact hb.2.1
  simp [execOp, hb'.eval hx, hb'.eval hi, Instr.sliceAt, Instr.slice, run_underlying ht, Instr.sliceBounds, Instr.sliceBound, asIntOf, hb.1, BS_extract, BS_size]
  intro hlt; exfalso; omega
theorem r_ssl_ny {x z : Operand} {xt : TypeId} {a : Bytes} {j : Int} {k : IntKind} (ht : P.underlying xt = some .string) (hN : Nat.blt d N = true) (hx : ev env x = some (.string (BS a))) (hj : ev env z = some (.int k j)) (hb : (0 : Int) ≤ 0 ∧ 0 ≤ j ∧ j ≤ (a.length : Int))
    (h : rwp P N ops Q rest ((d, .string (BS ((a.take j.toNat).drop (0 : Int).toNat))) :: env) w) : rwp P N ops Q (⟨some d, .slice xt x none (some z) none, ty, pos, af, none⟩ :: rest) env w := by
  refine r_val rfl rfl hN (fun b hb' => ?_) h
  have h2 : j ≤ ((BS a).size : Int) := by rw [BS_size]; exact hb.2.2
  simp [execOp, hb'.eval hx, hb'.eval hj, Instr.sliceAt, Instr.slice, run_underlying ht, Instr.sliceBounds, Instr.sliceBound, asIntOf, hb.2.1, h2, BS_extract]
/-! parts of slices: read only -/
theorem rdAll_drop {w : World} {B : Nat} : ∀ {l : List α} {xs : List Value} (i : Nat), rdAll P w B xs l → rdAll P w B (xs.drop (i * GT.size P α)) (l.drop i)
  | l, xs, 0, h => by simpa using h
  | [], xs, i + 1, h => by cases h; simp [rdAll]
  | x :: l, xs, i + 1, ⟨cs, ys, e, h1, h2⟩ => by
    subst e
    have hl := GT.rd_len h1
    rw [List.drop_succ_cons, List.drop_append, List.drop_of_length_le (by rw [hl, Nat.add_mul]; omega), List.nil_append, hl, show (i + 1) * GT.size P α - GT.size P α = i * GT.size P α by rw [Nat.add_mul]; omega]
    exact rdAll_drop i h2
theorem rdAll_take {w : World} {B : Nat} : ∀ {l : List α} {xs : List Value} (i : Nat), rdAll P w B xs l → rdAll P w B (xs.take (i * GT.size P α)) (l.take i)
  | l, xs, 0, h => by simp [rdAll]
  | [], xs, i + 1, h => by cases h; simp [rdAll]
  | x :: l, xs, i + 1, ⟨cs, ys, e, h1, h2⟩ => by
    subst e
    have hl := GT.rd_len h1
    rw [List.take_succ_cons, List.take_append, List.take_of_length_le (by rw [hl, Nat.add_mul]; omega), hl, show (i + 1) * GT.size P α - GT.size P α = i * GT.size P α by rw [Nat.add_mul]; omega]
    exact ⟨cs, _, rfl, h1, rdAll_take i h2⟩
theorem rdL_sub {B : Nat} {a : Option Addr} {cap n : Nat} {l : List α} {i j : Nat} (h : rdL P w B [.slice a n cap] l) (hij : i ≤ j) (hj : j ≤ l.length) :
    rdL P w B [.slice (if cap = i then a else a.map (·.add (i * GT.size P α))) (j - i) (cap - i)] ((l.take j).drop i) := by
  obtain ⟨v, hv, hl, h⟩ := h
  simp only [List.cons.injEq, and_true] at hv
  subst hv
  have hlen : ((l.take j).drop i).length = j - i := by simp; omega
  refine ⟨_, rfl, by omega, ?_⟩
  rcases h with ⟨he, rfl⟩ | ⟨ad, cap', xs, he, h1, h2, h3, h4, h5⟩
  · simp only [Value.slice.injEq] at he
    obtain ⟨rfl, rfl, rfl⟩ := he
    have : j = 0 := by simpa using hj
    subst this
    have : i = 0 := by omega
    subst this
    exact .inl ⟨by simp, by simp⟩
  · simp only [Value.slice.injEq] at he
    obtain ⟨rfl, rfl, rfl⟩ := he
    have hr := rdAll_drop i (rdAll_take j h5)
    by_cases hc : cap = i
    · subst hc
      have hji : j = cap := by omega
      subst hji
      rw [if_pos rfl]
      have hnil : (l.take j).drop j = [] := by simp
      rw [hnil]
      exact .inr ⟨ad, 0, [], by simp, by simp, by simp, fun h => absurd rfl h, fun k u hu => (by cases hu), rfl⟩
    · rw [if_neg hc]
      refine .inr ⟨ad.add (i * GT.size P α), cap - i, _, by simp [hlen], by omega, by omega, fun hne => ?_, fun k u hu => ?_, hr⟩
      · rw [block_add]
        exact h3 (by rintro rfl; exact hne (by simp))
      · rw [add_add]
        refine h4 _ u ?_
        rw [List.getElem?_drop] at hu
        rw [List.getElem?_take] at hu
        split at hu
        · exact hu
        · cases hu
theorem r_lsl_yy {x y z : Operand} {v : Value} {l : List α} {B : Nat} {i j : Int} {k k' : IntKind} (ht : slB P t (GT.tid P α) = true) (hN : Nat.blt d N = true) (hr : rdL P wq B [v] l) (hx : ev env x = some v) (hi : ev env y = some (.int k i)) (hj : ev env z = some (.int k' j)) (hb : 0 ≤ i ∧ i ≤ j ∧ j ≤ (l.length : Int))
    (h : ∀ v', rdL P wq B [v'] ((l.take j.toNat).drop i.toNat) → rwp P N ops Q rest ((d, v') :: env) w) : rwp P N ops Q (⟨some d, .slice t x (some y) (some z) none, ty, pos, af, none⟩ :: rest) env w := by
  obtain ⟨p, c, rfl⟩ := hr.shape
  obtain ⟨ie, u, hie, hs, -, -⟩ := tiB_spec (GT.ti (P := P) (α := α))
  have hcap : l.length ≤ c := by
    obtain ⟨v', hv, -, h'⟩ := hr
    simp only [List.cons.injEq, and_true] at hv
    rcases h' with ⟨rfl, rfl⟩ | ⟨ad, cap', xs, rfl, h1, -⟩
    · simp
    · simp only [Value.slice.injEq] at hv; obtain ⟨-, -, rfl⟩ := hv; exact h1
  have h2 : j ≤ (c : Int) := by omega
  have h1 : (0 : Int) ≤ j := by omega
  have h3 : i ≤ (j.toNat : Int) := by omega
  refine r_val (v := .slice (if c = i.toNat then p else p.map (·.add (i.toNat * GT.size P α))) (j.toNat - i.toNat) (c - i.toNat)) (w' := w) rfl rfl hN (fun b hb' => ?_) (h _ (rdL_sub hr (by omega) (by omega)))
  simp [execOp, hb'.eval hx, hb'.eval hi, hb'.eval hj, Instr.sliceAt, Instr.slice, run_underlying (slB_spec ht), Instr.sliceBounds, Instr.sliceBound, asIntOf, h1, h2, hb.1, run_sizeOf hie, hs]
  intro hlt; exfalso; omega
theorem r_lsl_yn {x y : Operand} {v : Value} {l : List α} {B : Nat} {i : Int} {k : IntKind} (ht : slB P t (GT.tid P α) = true) (hN : Nat.blt d N = true) (hr : rdL P wq B [v] l) (hx : ev env x = some v) (hi : ev env y = some (.int k i)) (hb : 0 ≤ i ∧ i ≤ (l.length : Int) ∧ (l.length : Int) ≤ (l.length : Int))
    (h : ∀ v', rdL P wq B [v'] ((l.take (l.length : Int).toNat).drop i.toNat) → rwp P N ops Q rest ((d, v') :: env) w) : rwp P N ops Q (⟨some d, .slice t x (some y) none none, ty, pos, af, none⟩ :: rest) env w := by
  obtain ⟨p, c, rfl⟩ := hr.shape
  obtain ⟨ie, u, hie, hs, -, -⟩ := tiB_spec (GT.ti (P := P) (α := α))
  refine r_val (v := .slice (if c = i.toNat then p else p.map (·.add (i.toNat * GT.size P α))) (l.length - i.toNat) (c - i.toNat)) (w' := w) rfl rfl hN (fun b hb' => ?_) (h _ (rdL_sub hr (by omega) (by omega)))
  simp [execOp, hb'.eval hx, hb'.eval hi, Instr.sliceAt, Instr.slice, run_underlying (slB_spec ht), Instr.sliceBounds, Instr.sliceBound, asIntOf, hb.1, hb.2.1, run_sizeOf hie, hs]
  try (intro hlt; exfalso; omega)
theorem r_lsl_ny {x z : Operand} {v : Value} {l : List α} {B : Nat} {j : Int} {k : IntKind} (ht : slB P t (GT.tid P α) = true) (hN : Nat.blt d N = true) (hr : rdL P wq B [v] l) (hx : ev env x = some v) (hj : ev env z = some (.int k j)) (hb : (0 : Int) ≤ 0 ∧ 0 ≤ j ∧ j ≤ (l.length : Int))
    (h : ∀ v', rdL P wq B [v'] ((l.take j.toNat).drop (0 : Int).toNat) → rwp P N ops Q rest ((d, v') :: env) w) : rwp P N ops Q (⟨some d, .slice t x none (some z) none, ty, pos, af, none⟩ :: rest) env w := by
  obtain ⟨p, c, rfl⟩ := hr.shape
  obtain ⟨ie, u, hie, hs, -, -⟩ := tiB_spec (GT.ti (P := P) (α := α))
  have hcap : l.length ≤ c := by
    obtain ⟨v', hv, -, h'⟩ := hr
    simp only [List.cons.injEq, and_true] at hv
    rcases h' with ⟨rfl, rfl⟩ | ⟨ad, cap', xs, rfl, h1, -⟩
    · simp
    · simp only [Value.slice.injEq] at hv; obtain ⟨-, -, rfl⟩ := hv; exact h1
  have h2 : j ≤ (c : Int) := by omega
  refine r_val (v := .slice (if c = 0 then p else p.map (·.add (0 * GT.size P α))) (j.toNat - 0) (c - 0)) (w' := w) rfl rfl hN (fun b hb' => ?_) (h _ (rdL_sub (i := 0) hr (by omega) (by omega)))
  simp [execOp, hb'.eval hx, hb'.eval hj, Instr.sliceAt, Instr.slice, run_underlying (slB_spec ht), Instr.sliceBounds, Instr.sliceBound, asIntOf, hb.2.1, h2, run_sizeOf hie, hs]
end
end Go.GL

namespace Go.GL
open Go Go.RowKit

/-! ## 13. Regions that draw their order -/
/-- the operation leaves v and does nothing else -/
def X (P : Program) (N : Nat) (env : Env) (w : World) (o : Oper) (v : Value) : Prop := ∀ a, Rel N env a → (execOp a.eval o).run P w = .ok (.value v) w
/-- Whatever order is drawn. S holds of the world behind each operation but those of E, which come last. -/
def anyE (P : Program) (ops : Array Oper) (Q : Exit → Act → World → Prop) (S : World → Prop) (E : Nat → Bool) : Nat → Array Bool → Act → World → Prop
  | 0, listed, a, w => Region.ready .any ops listed = [] ∧ Q .normal a w
  | fuel + 1, listed, a, w => (Region.ready .any ops listed = [] → Q .normal a w) ∧
      ∀ i ∈ Region.ready .any ops listed, wpOp P ops Q i (fun a' w' => (E i = false → S w') ∧ anyE P ops Q S E fuel (listed.setIfInBounds i true) a' w') a w
theorem anyE_sound {P : Program} {ops : Array Oper} {Q : Exit → Act → World → Prop} {S : World → Prop} {E : Nat → Bool} : ∀ (fuel : Nat) (listed : Array Bool) (a : Act) (w : World), anyE P ops Q S E fuel listed a w → wpAny P .any ops Q fuel listed a w := by
  intro fuel
  induction fuel with
  | zero => intro listed a w h; exact h
  | succ n ih => intro listed a w h; exact ⟨h.1, fun i hi => wpOp_mono (fun a' w' hh => ih _ a' w' hh.2) (h.2 i hi)⟩
/-- an operation of E waits for number i -/
def waitsB (ops : Array Oper) (E : Nat → Bool) (i : Nat) : Bool :=
  (List.range ops.size).all fun j => !(E j) || (match ops[j]? with | some oj => oj.after.any (fun e => Region.binds .any e && e.on == i) | none => true)
theorem anyE_take {P : Program} {ops : Array Oper} {Q : Exit → Act → World → Prop} {S : World → Prop} {E : Nat → Bool} {i : Nat} {oi : Oper} {v : Value} (hi : ops[i]? = some oi) (hs : Region.noSelect ops = true) (hE : E i = false) (hw : waitsB ops E i = true)
    (hQ : ∀ c a w, Q (.panic c) (a.put oi.dst v) w → Q (.panic c) a w) : ∀ (fuel : Nat) (listed : Array Bool) (a : Act) (w : World), Region.free .any ops listed i = true → (Region.ready .any ops listed).contains i = true →
      YieldsIf P ops S oi v a → S w → anyE P ops Q S E fuel (listed.setIfInBounds i true) (a.put oi.dst v) w → anyE P ops Q S E (fuel + 1) listed a w := by
  have hsel := Region.noSelect_spec hs
  -- the freedom of i, said once of the operations that are still to come
  have main : ∀ (fuel : Nat) (listed : Array Bool) (a : Act) (w : World), (∀ j oj, ops[j]? = some oj → j ≠ i → listed.getD j true = false → (∀ e ∈ oj.after, Region.binds .any e = true → e.on ≠ i) → oi.apart ops oj = true) →
      i ∈ Region.ready .any ops listed → YieldsIf P ops S oi v a → S w → anyE P ops Q S E fuel (listed.setIfInBounds i true) (a.put oi.dst v) w → anyE P ops Q S E (fuel + 1) listed a w := by
    intro fuel
    induction fuel with
    | zero =>
      intro listed a w _ hr hy hS H
      constructor
      · intro h0; rw [h0] at hr; cases hr
      · intro j hj
        by_cases hji : j = i
        · subst hji; exact hy.wpOp hi hS ⟨fun _ => hS, H⟩
        · have h2 := ready_mono hj hji
          rw [H.1] at h2
          cases h2
    | succ fuel ih =>
      intro listed a w hap hr hy hS H
      constructor
      · intro h0; rw [h0] at hr; cases hr
      · intro j hj
        by_cases hji : j = i
        · subst hji; exact hy.wpOp hi hS ⟨fun _ => hS, H⟩
        · have hstep := H.2 j (ready_mono hj hji)
          obtain ⟨hun, oj, hoj, hdone⟩ := mem_ready.1 hj
          have hiun := (mem_ready.1 hr).1
          have hlisted : listed.getD i false = true → False := by
            intro hl
            rcases Nat.lt_or_ge i listed.size with h' | h'
            · simp [h'] at hiun hl; rw [hiun] at hl; cases hl
            · simp [Array.getElem?_eq_none h'] at hl
          have hno : ∀ e ∈ oj.after, Region.binds .any e = true → e.on ≠ i := fun e he hb heq => hlisted (heq ▸ hdone e he hb)
          have hEj : E j = false := by
            cases hc : E j with
            | false => rfl
            | true =>
              exfalso
              unfold waitsB at hw
              rw [List.all_eq_true] at hw
              have := hw j (List.mem_range.2 (Array.getElem?_eq_some_iff.1 hoj).1)
              rw [hc, hoj] at this
              simp only [Bool.not_true, Bool.false_or] at this
              obtain ⟨e, he, hb⟩ := Array.any_eq_true'.1 this
              simp only [Bool.and_eq_true, beq_iff_eq] at hb
              exact hno e he hb.1 hb.2
          refine wpOp_mono ?_ (wpOp_putIf hoj (hap j oj hoj hji hun hno) (fun cs b => hsel i oi cs b hi) (fun cs b => hsel j oj cs b hoj) hQ hy hstep)
          rintro a' w' ⟨hy', hS', hrest⟩
          refine ⟨hS', ih (listed.setIfInBounds j true) a' w' ?_ (ready_mono hr (Ne.symm hji)) hy' (hS' hEj) ?_⟩
          · intro k ok hk hki hkun hkno
            refine hap k ok hk hki ?_ hkno
            by_cases hjk : j = k
            · subst hjk; exact hun
            · rwa [getD_set_ne true hjk] at hkun
          · rw [Array.setIfInBounds_comm _ _ hji]; exact hrest
  intro fuel listed a w hf hr hy hS H
  exact main fuel listed a w (Region.free_spec hi hf) (by simpa using hr) hy hS H

def awp (P : Program) (N : Nat) (ops : Array Oper) (Q : Exit → Act → World → Prop) (S : World → Prop) (E : Nat → Bool) (fuel : Nat) (listed : Array Bool) (env : Env) (w : World) : Prop :=
  ∀ a, Rel N env a → anyE P ops Q S E fuel listed a w
def dQ (P : Program) (ops : Array Oper) (Q : Exit → Act → World → Prop) (S : World → Prop) (E : Nat → Bool) (b : Bool) (fuel : Nat) (listed : Array Bool) : Exit → Act → World → Prop
  | .normal, a, w => (b = false → S w) ∧ anyE P ops Q S E fuel listed a w
  | e, a, w => Q e a w
section
variable {P : Program} {N : Nat} {Q : Exit → Act → World → Prop} {env : Env} {w w' w0 wq : World} {ops : Array Oper} {rest : List Oper} {S : World → Prop}
  {d : Nat} {t ty : TypeId} {pos : String} {af : Array Edge} {L : List Nat} {As R : List HP} {gd : Option (Nat × Bool)} {fuel : Nat} {listed : Array Bool}
  {α : Type} [GT P α]
theorem below_drew (w : World) : Below w.heap.size w { w with drawn := w.drawn + 1 } := ⟨rfl, rfl, rfl, Nat.le_refl _, fun _ _ => rfl⟩
variable {E : Nat → Bool}
theorem d_start {id : Nat} {l : List Oper} (E : Nat → Bool) (hm : P.follows .mixedOrders = true) (h : ∀ w', Below w.heap.size w w' → awp P N l.toArray Q (fun w1 => Below w.heap.size w w1) E l.toArray.size (Array.replicate l.toArray.size false) env w') :
    cwp P N (.region id l.toArray true) Q env w := fun a ha => wp_region_any hm (anyE_sound _ _ _ _ (h _ (below_drew w) a ha))
theorem d_take {i : Nat} {o : Oper} {v : Value} (hi : ops[i]? = some o) (hd : o.dst = some d) (hg : o.guard = none) (hN : Nat.blt d N = true) (hs : Region.noSelect ops = true) (hE : E i = false) (hw : waitsB ops E i = true) (hf : Region.free .any ops listed i = true) (hr : (Region.ready .any ops listed).contains i = true)
    (hQ : ∀ c a w, Q (.panic c) (a.put o.dst v) w → Q (.panic c) a w) (hS : S w) (hx : ∀ w1, S w1 → X P N env w1 o v)
    (h : awp P N ops Q S E fuel (listed.setIfInBounds i true) ((d, v) :: env) w) : awp P N ops Q S E (fuel + 1) listed env w := fun a ha =>
  anyE_take hi hs hE hw hQ fuel listed a w hf hr (.inl ⟨by simp [Region.wanted, hg], fun w1 h1 => hx w1 h1 a ha⟩) hS (by rw [hd]; exact h _ (ha.put hN))
theorem d_take_g {i g e : Nat} {b : Bool} {o : Oper} {v : Value} (hi : ops[i]? = some o) (hd : o.dst = some d) (hg : o.guard = some (g, b)) (hgd : (ops[g]?).bind (·.dst) = some e) (hv : env.get e = some (.bool b)) (hN : Nat.blt d N = true) (hs : Region.noSelect ops = true) (hE : E i = false) (hw : waitsB ops E i = true) (hf : Region.free .any ops listed i = true) (hr : (Region.ready .any ops listed).contains i = true)
    (hQ : ∀ c a w, Q (.panic c) (a.put o.dst v) w → Q (.panic c) a w) (hS : S w) (hx : ∀ w1, S w1 → X P N env w1 o v)
    (h : awp P N ops Q S E fuel (listed.setIfInBounds i true) ((d, v) :: env) w) : awp P N ops Q S E (fuel + 1) listed env w := fun a ha =>
  anyE_take hi hs hE hw hQ fuel listed a w hf hr (.inl ⟨by simp [Region.wanted, hg, yielded_bool ha hgd hv], fun w1 h1 => hx w1 h1 a ha⟩) hS (by rw [hd]; exact h _ (ha.put hN))
theorem d_skip {i g e : Nat} {b c : Bool} {o : Oper} (hi : ops[i]? = some o) (hd : o.dst = some d) (hg : o.guard = some (g, b)) (hgd : (ops[g]?).bind (·.dst) = some e) (hv : env.get e = some (.bool c)) (hbc : (c == b) = false) (hN : Nat.blt d N = true) (hs : Region.noSelect ops = true) (hE : E i = false) (hw : waitsB ops E i = true) (hf : Region.free .any ops listed i = true) (hr : (Region.ready .any ops listed).contains i = true)
    (hQ : ∀ c a w, Q (.panic c) (a.put o.dst undef) w → Q (.panic c) a w) (hS : S w)
    (h : awp P N ops Q S E fuel (listed.setIfInBounds i true) ((d, undef) :: env) w) : awp P N ops Q S E (fuel + 1) listed env w := fun a ha =>
  anyE_take (v := undef) hi hs hE hw hQ fuel listed a w hf hr (.inr ⟨by simp only [Region.wanted, hg, yielded_bool ha hgd hv]; cases b <;> cases c <;> simp_all, rfl⟩) hS (by rw [hd]; exact h _ (ha.put hN))
theorem d_skip_undef {i g e : Nat} {b : Bool} {o : Oper} (hi : ops[i]? = some o) (hd : o.dst = some d) (hg : o.guard = some (g, b)) (hgd : (ops[g]?).bind (·.dst) = some e) (hv : env.get e = some undef) (hN : Nat.blt d N = true) (hs : Region.noSelect ops = true) (hE : E i = false) (hw : waitsB ops E i = true) (hf : Region.free .any ops listed i = true) (hr : (Region.ready .any ops listed).contains i = true)
    (hQ : ∀ c a w, Q (.panic c) (a.put o.dst undef) w → Q (.panic c) a w) (hS : S w)
    (h : awp P N ops Q S E fuel (listed.setIfInBounds i true) ((d, undef) :: env) w) : awp P N ops Q S E (fuel + 1) listed env w := fun a ha =>
  anyE_take (v := undef) hi hs hE hw hQ fuel listed a w hf hr (.inr ⟨by simp [Region.wanted, hg, yielded_undef ha hgd hv], rfl⟩) hS (by rw [hd]; exact h _ (ha.put hN))
theorem d_one {i : Nat} {o : Oper} (hi : ops[i]? = some o) (hr : Region.ready .any ops listed = [i]) (h : rwp P N ops (dQ P ops Q S E (E i) fuel (listed.setIfInBounds i true)) [o] env w) : awp P N ops Q S E (fuel + 1) listed env w := by
  intro a ha
  refine ⟨fun h0 => (by rw [hr] at h0; cases h0), fun j hj => ?_⟩
  rw [hr] at hj
  simp only [List.mem_singleton] at hj
  subst hj
  have h1 := h a ha
  unfold wpList at h1
  unfold wpOp
  simp only [hi]
  split at h1
  · rename_i hw
    rw [if_pos hw]
    rcases h1 with h1 | ⟨h1, h2⟩
    · left
      unfold Oper.wp at h1 ⊢
      generalize (execOp a.eval o).run P w = r at *
      cases r with
      | ok n w' =>
        cases n <;> simp only [Oper.upon] at h1 ⊢ <;> first
          | exact h1
          | exact Calls.mono h1 (fun e w'' he => by cases e <;> exact he)
          | exact Rows.mono h1 (fun _ _ he => he)
      | halt x w' => cases x <;> simp only [Oper.upon] at h1 ⊢ <;> exact h1
    · right
      exact ⟨h1, by obtain ⟨a', w', h3⟩ := h2; exact ⟨a', w', h3⟩⟩
  · rename_i hw
    rw [if_neg hw]
    exact h1
theorem d_next {b : Bool} (hS : b = false → S w) (h : awp P N ops Q S E fuel listed env w) : qwp N (dQ P ops Q S E b fuel listed .normal) env w := fun a ha => ⟨hS, h a ha⟩
theorem d_done (hr : Region.ready .any ops listed = []) (h : qwp N (Q .normal) env w) : awp P N ops Q S E fuel listed env w := fun a ha => by
  cases fuel with
  | zero => exact ⟨hr, h a ha⟩
  | succ n => exact ⟨fun _ => h a ha, by rw [hr]; intro i hi; cases hi⟩

/-! the operations once more, by themselves -/
theorem x_move {x : Operand} {v : Value} (hx : ev env x = some v) : X P N env w ⟨some d, .move x, t, pos, af, gd⟩ v := fun a ha => by simp [execOp, ha.eval hx]
theorem x_pick {c x y : Operand} {b : Bool} {v : Value} (hc : ev env c = some (.bool b)) (hv : (bif b then ev env x else ev env y) = some v) : X P N env w ⟨some d, .pick c x y, t, pos, af, gd⟩ v :=
  fun a ha => by cases b <;> simp_all [execOp, ha.eval hc, asBool] <;> exact ha.eval hv
theorem x_nilCheck {x : Operand} {p : Addr} (hx : ev env x = some (.pointer (some p))) : X P N env w ⟨some d, .nilCheck x, t, pos, af, gd⟩ (.pointer (some p)) := fun a ha => by simp [execOp, ha.eval hx]
theorem x_extract {x : Operand} {vs : Array Value} {i : Nat} {v : Value} (hx : ev env x = some (.tuple vs)) (hv : vs[i]? = some v) : X P N env w ⟨some d, .extract x i, t, pos, af, gd⟩ v := fun a ha => by simp [execOp, ha.eval hx, Instr.extract, hv]
theorem x_bin {op : BinOp} {x y : Operand} {xt yt : TypeId} {u v z : Value} (hx : ev env x = some u) (hy : ev env y = some v)
    (hg : (eqGuard op xt x y u v).run P w = .ok () w) (hr : (binOp op xt u v).run P w = .ok z w) : X P N env w ⟨some d, .binOp op xt x y yt, t, pos, af, gd⟩ z := fun a ha => by simp [execOp, ha.eval hx, ha.eval hy, hg, hr]
theorem x_int {op : BinOp} {x y : Operand} {xt yt : TypeId} {k : IntKind} {a b : Int} {z : Value} (hx : ev env x = some (.int k a)) (hy : ev env y = some (.int k b)) (hz : iop op k a b = some z) : X P N env w ⟨some d, .binOp op xt x y yt, t, pos, af, gd⟩ z :=
  x_bin hx hy eqGuard_int (iop_run hz)
theorem x_shl {x y : Operand} {xt yt : TypeId} {k j : IntKind} {a b : Int} (hx : ev env x = some (.int k a)) (hy : ev env y = some (.int j b)) (hb : decide (b < 0) = false) : X P N env w ⟨some d, .binOp .shl xt x y yt, t, pos, af, gd⟩ (.int k (ishl k a b)) :=
  x_bin hx hy eqGuard_int (by have : ¬ b < 0 := by simpa using hb
                              simp [binOp, Op.shift, this, ishl])
theorem x_shr {x y : Operand} {xt yt : TypeId} {k j : IntKind} {a b : Int} (hx : ev env x = some (.int k a)) (hy : ev env y = some (.int j b)) (hb : decide (b < 0) = false) : X P N env w ⟨some d, .binOp .shr xt x y yt, t, pos, af, gd⟩ (.int k (ishr k a b)) :=
  x_bin hx hy eqGuard_int (by have : ¬ b < 0 := by simpa using hb
                              simp [binOp, Op.shift, this, ishr])
theorem x_rem {x y : Operand} {xt yt : TypeId} {k : IntKind} {a b : Int} (hx : ev env x = some (.int k a)) (hy : ev env y = some (.int k b)) (hb : (b == 0) = false) : X P N env w ⟨some d, .binOp .rem xt x y yt, t, pos, af, gd⟩ (.int k (a.tmod b)) :=
  x_bin hx hy eqGuard_int (by have : b ≠ 0 := by simpa using hb
                              simp [binOp, Op.intDiv, this])
theorem x_quo {x y : Operand} {xt yt : TypeId} {k : IntKind} {a b : Int} (hx : ev env x = some (.int k a)) (hy : ev env y = some (.int k b)) (hb : (b == 0) = false) : X P N env w ⟨some d, .binOp .quo xt x y yt, t, pos, af, gd⟩ (.int k (k.wrap (a.tdiv b))) :=
  x_bin hx hy eqGuard_int (by have : b ≠ 0 := by simpa using hb
                              simp [binOp, Op.intDiv, this])
theorem x_not {x : Operand} {xt : TypeId} {b : Bool} (hx : ev env x = some (.bool b)) : X P N env w ⟨some d, .unOp .not xt x, t, pos, af, gd⟩ (.bool (!b)) := fun a ha => by simp [execOp, ha.eval hx, Op.unary]
theorem x_neg {x : Operand} {xt : TypeId} {k : IntKind} {n : Int} (hx : ev env x = some (.int k n)) : X P N env w ⟨some d, .unOp .neg xt x, t, pos, af, gd⟩ (.int k (k.wrap (0 - n))) := fun a ha => by simp [execOp, ha.eval hx, Op.unary, Op.intArith]
theorem x_conv_int {x : Operand} {s t' : TypeId} {j k : IntKind} {n : Int} (hs : ∃ u, P.underlying s = some u) (hk : P.underlying t' = some (.int k)) (hx : ev env x = some (.int j n)) : X P N env w ⟨some d, .convert s t' x, t, pos, af, gd⟩ (.int k (k.wrap n)) :=
  fun a ha => by obtain ⟨u, hu⟩ := hs; simp [execOp, ha.eval hx, convert, run_underlying hu, run_underlying hk, Conv.intToInt]
theorem x_beq {x y : Operand} {xt yt : TypeId} {a b : Bool} (ht : P.underlying xt = some .bool) (hx : ev env x = some (.bool a)) (hy : ev env y = some (.bool b)) : X P N env w ⟨some d, .binOp .eql xt x y yt, t, pos, af, gd⟩ (.bool (a == b)) := x_bin hx hy (by simp [eqGuard]) (run_beq ht)
theorem x_bne {x y : Operand} {xt yt : TypeId} {a b : Bool} (ht : P.underlying xt = some .bool) (hx : ev env x = some (.bool a)) (hy : ev env y = some (.bool b)) : X P N env w ⟨some d, .binOp .neq xt x y yt, t, pos, af, gd⟩ (.bool (a != b)) := x_bin hx hy (by simp [eqGuard]) (run_bne ht)
theorem x_seq {x y : Operand} {xt yt : TypeId} {a b : Bytes} (hx : ev env x = some (.string (BS a))) (hy : ev env y = some (.string (BS b))) : X P N env w ⟨some d, .binOp .eql xt x y yt, t, pos, af, gd⟩ (.bool (a == b)) := x_bin hx hy (by simp [eqGuard]) (by simp [binOp, Op.stringOp, BS_toList])
theorem x_sne {x y : Operand} {xt yt : TypeId} {a b : Bytes} (hx : ev env x = some (.string (BS a))) (hy : ev env y = some (.string (BS b))) : X P N env w ⟨some d, .binOp .neq xt x y yt, t, pos, af, gd⟩ (.bool (a != b)) := x_bin hx hy (by simp [eqGuard]) (by simp [binOp, Op.stringOp, BS_toList, bne])
theorem x_sidx {x y : Operand} {xt : TypeId} {k : IntKind} {a : Bytes} {i : Int} {c : UInt8} (ht : P.underlying xt = some .string) (hx : ev env x = some (.string (BS a))) (hy : ev env y = some (.int k i)) (h0 : 0 ≤ i) (hc : a[i.toNat]? = some c) : X P N env w ⟨some d, .index xt x y, t, pos, af, gd⟩ (.int .u8 c.toNat) :=
  fun _ ha => by simp [execOp, ha.eval hx, ha.eval hy, Instr.index, asIntOf, run_underlying ht, h0, BS_get, hc]
theorem x_slen {x : Operand} {xt : TypeId} {a : Bytes} (ht : P.underlying xt = some .string) (hx : ev env x = some (.string (BS a))) : X P N env w ⟨some d, .call { callee := .builtin .len, args := #[x], argTypes := #[xt] }, t, pos, af, gd⟩ (.int .i64 a.length) :=
  fun _ ha => by simp [execOp, ha.eval hx, resolve, invoke, builtin, Builtin.len_, run_underlying ht, BS_size, goInt]
theorem x_len_rd {x : Operand} {xt : TypeId} {v : Value} {l : List α} {B : Nat} (ht : slB P xt (GT.tid P α) = true) (hr : rdL P wq B [v] l) (hx : ev env x = some v) : X P N env w ⟨some d, .call { callee := .builtin .len, args := #[x], argTypes := #[xt] }, t, pos, af, gd⟩ (.int .i64 l.length) := by
  obtain ⟨p, c, rfl⟩ := hr.shape
  exact fun _ ha => by simp [execOp, ha.eval hx, resolve, invoke, builtin, Builtin.len_, run_underlying (slB_spec ht), goInt]
theorem x_field {s : TypeId} {f off : Nat} {x : Operand} {p : Addr} (hs : fiB P s f off = true) (hx : ev env x = some (.pointer (some p))) : X P N env w ⟨some d, .fieldAddr s x f, ty, pos, af, gd⟩ (.pointer (some (p.add off))) := by
  obtain ⟨fs, fd, i, hu, hf, ho, hi, hsz⟩ := fiB_spec hs
  exact fun a ha => by simp [execOp, ha.eval hx, run_fieldAt hu hf hi hsz, ho]
theorem x_index {v : Value} {i : Int} {l : List α} {e : α} {B : Nat} (ht : slB P t (GT.tid P α) = true)
    (hr : rdL P wq B [v] l) (h0 : 0 ≤ i) (he : l[i.toNat]? = some e) :
    ∃ p, PR P wq B p e ∧ ∀ {N : Nat} {env : Env} {w : World} {d : Nat} {ty : TypeId} {pos : String} {af : Array Edge} {gd : Option (Nat × Bool)} {x y : Operand} {k : IntKind},
      ev env x = some v → ev env y = some (.int k i) → X P N env w ⟨some d, .indexAddr t x y, ty, pos, af, gd⟩ (.pointer (some p)) := by
  obtain ⟨v', hv, -, hr⟩ := hr
  simp only [List.cons.injEq, and_true] at hv
  subst hv
  have hil : i.toNat < l.length := (List.getElem?_eq_some_iff.1 he).1
  rcases hr with ⟨-, rfl⟩ | ⟨a, cap, xs, rfl, h1, h2, h3, h4, h5⟩
  · cases he
  · obtain ⟨ie, u, hi, hs, hu, -⟩ := tiB_spec (GT.ti (P := P) (α := α))
    obtain ⟨cs, hcs, hat⟩ := rdAll_get h5 he
    have hpos := GT.pos (P := P) (α := α)
    have hlen := GT.rd_len hcs
    have hne : xs ≠ [] := by
      rintro rfl
      have := hat 0 (cs[0]'(by omega)) (List.getElem?_eq_getElem _)
      cases this
    refine ⟨a.add (i.toNat * GT.size P α), ⟨by rw [block_add]; exact h3 hne, cs, fun j u hu' => ?_, hcs⟩, fun hx hy b hb => by simp [execOp, hb.eval hx, hb.eval hy, run_indexAt (slB_spec ht) hi h0 (show i < (l.length : Int) by omega), hs]⟩
    rw [add_add]
    exact h4 _ u (hat j u hu')
/-- an element of a slice of the call's own: its place, and what it reads as -/
theorem x_index_own {v : Value} {i : Int} {l : List α} {e : α} {k : Nat} (ht : slB P t (GT.tid P α) = true)
    (H : St w0 L wq As) (hk : As[k]? = some (ownL P v l)) (h0 : 0 ≤ i) (he : l[i.toNat]? = some e) :
    ∃ p, PO (GT.size P α) v i.toNat 0 p ∧ PR P wq wq.heap.size p e ∧ ∀ {N : Nat} {env : Env} {w : World} {d : Nat} {ty : TypeId} {pos : String} {af : Array Edge} {gd : Option (Nat × Bool)} {x y : Operand} {k : IntKind},
      ev env x = some v → ev env y = some (.int k i) → X P N env w ⟨some d, .indexAddr t x y, ty, pos, af, gd⟩ (.pointer (some p)) := by
  have hil : i.toNat < l.length := (List.getElem?_eq_some_iff.1 he).1
  have hr := H.rdl hk
  obtain ⟨fp, ⟨u, xs, g, hv, hown, hall, rfl⟩, hfp⟩ := H.get hk
  simp only [List.cons.injEq, and_true] at hv
  subst hv
  obtain ⟨ie, u, hi, hs, hu, -⟩ := tiB_spec (GT.ti (P := P) (α := α))
  rcases hown.2 with ⟨rfl, hn⟩ | ⟨b, cap, cur, rfl, -, hbk, hnc, hcm, hsz, htk⟩
  · omega
  · refine ⟨(⟨b, 0, none⟩ : Addr).add (i.toNat * GT.size P α), ?_, ?_, fun hx hy c hc => by simp [execOp, hc.eval hx, hc.eval hy, run_indexAt (slB_spec ht) hi h0 (show i < (l.length : Int) by omega), hs]⟩
    · have : PO (GT.size P α) (.slice (some ⟨b, 0, none⟩) l.length cap) 0 0 ⟨b, 0, none⟩ := by simp [PO, Value.ownBlock]
      have h2 := this.add (i.toNat * GT.size P α)
      unfold PO at h2 ⊢
      simpa using h2
    · obtain ⟨u2, hu2, -, h3⟩ := hr
      simp only [List.cons.injEq, and_true] at hu2
      subst hu2
      rcases h3 with ⟨h3, -⟩ | ⟨a, cap', xs', h3, h4, h5, h6, h7, h8⟩
      · cases h3
      · simp only [Value.slice.injEq, Option.some.injEq, true_and] at h3
        obtain ⟨rfl, rfl⟩ := h3
        obtain ⟨cs, hcs, hat⟩ := rdAll_get h8 he
        have hlen := GT.rd_len hcs
        have hpos := GT.pos (P := P) (α := α)
        have hne : xs' ≠ [] := by
          rintro rfl
          have := hat 0 (cs[0]'(by omega)) (List.getElem?_eq_getElem _)
          cases this
        refine ⟨by rw [block_add]; exact h6 hne, cs, fun j u hu' => ?_, hcs⟩
        rw [add_add]
        exact h7 _ u (hat j u hu')
theorem x_ldb {b off k : Nat} {tb : TypeId} {cs : List Value} {x : Operand} {size : Nat} {agg : Bool} (ht : tiB P t size agg = true) (h1 : agg = false → size = 1) (H : St w0 L wq As) (hk : As[k]? = some (blk b tb cs))
    (hx : ev env x = some (.pointer (some ⟨b, off, none⟩))) (hl : Nat.ble (off + size) cs.length = true) (hb : Below wq.heap.size wq w) : X P N env w ⟨some d, .load t x, ty, pos, af, gd⟩ (toVal agg ((cs.drop off).take size)) := by
  have H2 := H.grow hb
  have hl' : off + size ≤ cs.length := by simpa using hl
  intro a ha
  have := run_loadAt (P := P) (w := w) (p := ⟨b, off, none⟩) (cs := (cs.drop off).take size) ht h1 (by simp; omega) (fun j u hu => cell_blk H2 hk (by
    rw [List.getElem?_take] at hu
    split at hu
    · rw [List.getElem?_drop] at hu; exact hu
    · cases hu))
  simp [execOp, ha.eval hx, this]
theorem x_load {p : Addr} {e : α} {B : Nat} (ht : Nat.beq t (GT.tid P α) = true) (hp : PR P wq B p e) :
    ∃ cs, GT.rd P wq B cs e ∧ ∀ {N : Nat} {env : Env} {w : World} {d : Nat} {ty : TypeId} {pos : String} {af : Array Edge} {gd : Option (Nat × Bool)} {x : Operand},
      Below B wq w → ev env x = some (.pointer (some p)) → X P N env w ⟨some d, .load t x, ty, pos, af, gd⟩ (toVal (GT.agg P α) cs) := by
  obtain rfl : t = GT.tid P α := Nat.eq_of_beq_eq_true ht
  obtain ⟨h1, cs, h2, h3⟩ := hp
  exact ⟨cs, h3, fun hb hx a ha => by simp [execOp, ha.eval hx, run_loadAt (GT.ti (P := P) (α := α)) (GT.one) (GT.rd_len h3) (fun j u hu => (hb.cell (p := p.add j) (by rw [block_add]; exact h1)).trans (h2 j u hu))]⟩
/-! results that lie in variables -/
def RR (P : Program) (w : World) (a : Act) : ResultVar → Value → Prop
  | .tmp t, v => a.tmps.getD t undef = v
  | .cell p t, v => (do loadVar t (← asAddr (a.tmps.getD p undef)) : Sem Value).run P w = .ok v w
def RRs (P : Program) (w : World) (a : Act) : List ResultVar → List Value → Prop
  | [], vs => vs = []
  | r :: rs, vs => ∃ v us, vs = v :: us ∧ RR P w a r v ∧ RRs P w a rs us
def tupOf : List Value → Value
  | [v] => v
  | vs => .tuple vs.toArray
def rrd (tmps : Array Value) : ResultVar → Sem Value
  | .tmp t => pure (tmps.getD t undef)
  | .cell a t => do loadVar t (← asAddr (tmps.getD a undef))
theorem results_eq (fn : Func) (tmps : Array Value) : results fn tmps = (do let vs ← fn.results.mapM (rrd tmps); pure (if h : vs.size = 1 then vs[0] else .tuple vs)) := by
  unfold results
  congr 1
theorem results_run {fn : Func} {rs : List ResultVar} {vs : List Value} {a : Act} (hr : fn.results = rs.toArray) (h : RRs P w a rs vs) : (results fn a.tmps).run P w = .ok (tupOf vs) w := by
  have key : ∀ (rs : List ResultVar) (vs : List Value), RRs P w a rs vs → (rs.mapM (rrd a.tmps)).run P w = .ok vs w := by
    intro rs
    induction rs with
    | nil => rintro vs rfl; rfl
    | cons r rs ih =>
      rintro vs ⟨v, us, rfl, h1, h2⟩
      have h3 : (rrd a.tmps r).run P w = .ok v w := by
        cases r with
        | tmp t => simp only [RR] at h1; simp only [rrd, h1]; rfl
        | cell p t => exact h1
      rw [List.mapM_cons]
      simp only [Sem.run_bind, h3, Result.andThen_ok, ih us h2]
      rfl
  have h1 := key rs vs h
  rw [results_eq, hr, Array.mapM_eq_mapM_toList]
  simp only [bind_map_left, Sem.run_bind, h1, Result.andThen_ok]
  have : (if h : (vs.toArray).size = 1 then (vs.toArray)[0] else Value.tuple vs.toArray) = tupOf vs := by
    match vs with
    | [] => rfl
    | [v] => rfl
    | u :: v :: r => simp [tupOf]
  rw [← this]
  rfl
theorem rr_tmp {a : Act} {s : Nat} {v : Value} (ha : Rel N env a) (hv : env.get s = some v) : RR P w a (.tmp s) v := ha.val s v hv
theorem rr_cell {a : Act} {s k b : Nat} {tb : TypeId} {cs : List Value} {size : Nat} {agg : Bool} (ha : Rel N env a) (hv : env.get s = some (.pointer (some ⟨b, 0, none⟩))) (ht : tiB P t size agg = true) (h1 : agg = false → size = 1) (H : St w0 L w As) (hk : As[k]? = some (blk b tb cs)) (hl : Nat.beq cs.length size = true) :
    RR P w a (.cell s t) (toVal agg cs) := by
  have hl' : cs.length = size := Nat.eq_of_beq_eq_true hl
  have h2 := run_loadAt (P := P) (w := w) (p := ⟨b, 0, none⟩) (cs := cs) ht h1 hl' (fun j u hu => cell_blk (off := 0) H hk (by rw [Nat.zero_add]; exact hu))
  have h3 := ha.val s _ hv
  simp only [RR, h3]
  simpa [Instr.loadAt, Instr.sureAddr, asAddr] using h2
theorem c_retn {fn : Func} {R : Ending → World → Prop} {rs : List ResultVar} {vs : List Value} (hQ : ∀ a w, bodyPost P fn R .ret a w → Q .ret a w) (hr : fn.results = rs.toArray) (hv : ∀ a, Rel N env a → RRs P w a rs vs) (hR : R (.returned (tupOf vs)) w) : cwp P N .ret Q env w :=
  c_ret (fun a ha => results_run hr (hv a ha)) hR hQ
end
end Go.GL

namespace Go.GL
open Go Go.RowKit
section
variable {P : Program} {N : Nat} {Q : Exit → Act → World → Prop} {env : Env} {w w' w0 wq : World} {ops : Array Oper} {rest : List Oper}
  {d : Nat} {t ty : TypeId} {pos : String} {af : Array Edge} {L : List Nat} {As R : List HP}
  {α : Type} [GT P α]
theorem cells_one {v : Value} (h : v.oneCell' = true) : v.cells.toList = [v] := by rw [oneCell_cells h]
theorem ld_list [GT P (List α)] {x : Operand} {p : Addr} {e : List α} {B : Nat} (hrd : ∀ {w B cs} {l : List α}, GT.rd P w B cs l → rdL P w B cs l) (hagg : GT.agg P (List α) = false) (ht : Nat.beq t (GT.tid P (List α)) = true) (hN : Nat.blt d N = true) (hp : PR P wq B p e) (hb : Below B wq w) (hx : ev env x = some (.pointer (some p)))
    (h : ∀ v, rdL P wq B [v] e → rwp P N ops Q rest ((d, v) :: env) w) : rwp P N ops Q (⟨some d, .load t x, ty, pos, af, none⟩ :: rest) env w :=
  r_load (α := List α) ht hN hp hb hx fun cs hcs => by
    have h1 := hrd hcs
    obtain ⟨v, rfl, h2⟩ := id h1
    rw [hagg]
    exact h v h1
theorem PR_blk {b k : Nat} {tb : TypeId} {cs : List Value} {x : α} (H : St w0 L w As) (hk : As[k]? = some (blk b tb cs)) (hrd : GT.rd P w w.heap.size cs x) : PR P w w.heap.size ⟨b, 0, none⟩ x := by
  obtain ⟨fp, ⟨hfp, -⟩, hb⟩ := H.get hk
  exact ⟨hb b (by simp [hfp]), cs, fun j u hu => cell_blk (off := 0) H hk (by rw [Nat.zero_add]; exact hu), hrd⟩
/-- a whole element is replaced by one that owns memory of its own: the assertion at the front goes in -/
theorem r_sto_own {x y : Operand} {v val : Value} {i : Nat} {l : List α} {e e' : α} {p : Addr} {vs : List Value} {A : HP} (H : St w0 L w (A :: ownL P v l :: R)) (hp : PO (GT.size P α) v i 0 p) (he : l[i]? = some e)
    (hx : ev env x = some (.pointer (some p))) (hy : ev env y = some val) (hv : val.cells.toList = vs) {agg : Bool} (hsz : tiB P t vs.length agg = true) (h1 : ∀ u ∈ vs, u.oneCell' = true)
    (hod : ∀ f, A.holds w f → GT.od P w vs e' f)
    (h : ∀ w', St w0 L w' (ownL P v (l.set i e') :: R) → rwp P N ops Q rest env w') :
    rwp P N ops Q (⟨none, .store t x y, ty, pos, af, none⟩ :: rest) env w := by
  obtain ⟨it, ut, hit, hst, hut, hat⟩ := tiB_spec hsz
  obtain ⟨fp, ⟨fA, fO, rfl, hA, ⟨u, xs, g, hvv, hown, hall, rfl⟩⟩, hnd, hfp, hclose⟩ := H.star.open_ (k := 0) rfl
  simp only [List.cons.injEq, and_true] at hvv
  subst hvv
  obtain ⟨b, hb, rfl⟩ := hp.nth
  have hil : i < l.length := (List.getElem?_eq_some_iff.1 he).1
  have hodA := hod fA hA
  have hvl := GT.od_len hodA
  rcases hown.2 with ⟨rfl, hn⟩ | ⟨b', cap, cur, rfl, -, hbk, hnc, hcm, hcs, htk⟩
  · cases hb
  · simp only [Value.ownBlock, Option.some.injEq] at hb
    subst hb
    obtain ⟨xs1, cs, xs2, f1, f, f2, rfl, hl1, rfl, hodE, hset⟩ := odAll_set hall he
    have hcl := GT.od_len hodE
    have hxl := hown.1
    simp only [List.length_append, hl1, hcl] at hxl
    have hcur : cur.toList = xs1 ++ cs ++ xs2 ++ cur.toList.drop (l.length * GT.size P α) := by rw [← htk, List.take_append_drop]
    have hle : i * GT.size P α + vs.length ≤ cur.size := by
      have h1 : l.length * GT.size P α ≤ cap * GT.size P α := Nat.mul_le_mul_right _ hnc
      rw [hcs]; omega
    have hrun := run_storeCells_at (P := P) b' (i * GT.size P α) (GT.tid P α) vs 0 cur w hbk (by simpa using hle) h1
    simp only [Nat.add_zero] at hrun
    have hnew : cur.toList.take (i * GT.size P α) ++ vs ++ cur.toList.drop (i * GT.size P α + vs.length) = xs1 ++ vs ++ xs2 ++ cur.toList.drop (l.length * GT.size P α) := by
      conv => lhs; rw [hcur]
      have e1 : (xs1 ++ cs ++ xs2 ++ cur.toList.drop (l.length * GT.size P α)).take (i * GT.size P α) = xs1 := by
        rw [List.append_assoc, List.append_assoc, ← hl1, List.take_left']
        rfl
      have e2 : (xs1 ++ cs ++ xs2 ++ cur.toList.drop (l.length * GT.size P α)).drop (i * GT.size P α + vs.length) = xs2 ++ cur.toList.drop (l.length * GT.size P α) := by
        rw [List.append_assoc, ← hl1, show vs.length = cs.length by omega, ← List.length_append, List.drop_left']
        rfl
      rw [e1, e2]
      simp
    rw [hnew] at hrun
    obtain ⟨g1, g2, g3, g4, g5, g6⟩ := setRow_frame w b' cur (xs1 ++ vs ++ xs2 ++ cur.toList.drop (l.length * GT.size P α)).toArray (GT.tid P α) hbk
    have hbn : b' ∉ fA ∧ b' ∉ f1 ++ f ++ f2 := by
      have hq := hnd
      simp only [Value.ownBlock, Option.toList_some, List.cons_append, List.nil_append] at hq
      rw [List.nodup_append] at hq
      obtain ⟨-, h4, h5⟩ := hq
      refine ⟨fun hm => h5 b' hm b' (by simp) rfl, ?_⟩
      exact (List.nodup_cons.1 h4).1
    refine r_unit (w' := w.setRow b' (xs1 ++ vs ++ xs2 ++ cur.toList.drop (l.length * GT.size P α)).toArray) rfl rfl (fun a ha => ?_)
      (h _ (hclose _ (ownL P (.slice (some ⟨b', 0, none⟩) l.length cap) (l.set i e')) g1 g2 g3 (Nat.le_of_eq g4.symm) (fun c hc hn => g5 c (fun e => hn (by subst e; simp [Value.ownBlock]))) ⟨b' :: (f1 ++ fA ++ f2), ?_, ?_, fun c hc => .inl ?_⟩))
    · have hvc : val.cells.size = vs.length := by rw [← hv]; simp
      simp [execOp, ha.eval hx, ha.eval hy, Instr.storeAt, Instr.sureAddr, storeVar, hvc, run_sizeOf hit, hst, hv, hrun]
    · refine ⟨_, xs1 ++ vs ++ xs2, f1 ++ fA ++ f2, rfl, ⟨by simp [hl1, hvl]; omega, .inr ⟨b', cap, _, by simp, Nat.zero_le _, g6, by simpa using hnc, hcm, ?_, ?_⟩⟩, ?_, by simp [Value.ownBlock]⟩
      · have := congrArg List.length hcur
        simp only [Array.length_toList, List.length_append, hl1, hcl] at this
        simp only [List.size_toArray, List.length_append, hl1, hvl]
        omega
      · simp only [List.length_set]
        rw [List.take_append_of_le_length (by simp [hl1, hvl]; omega), List.take_of_length_le (by simp [hl1, hvl]; omega)]
      · refine hset _ vs e' fA (fun c hc => g5 c (fun e => hbn.2 (by subst e; rcases List.mem_append.1 hc with h | h <;> simp [h]))) ?_
        exact GT.od_keep (w := w) (fun c hc => g5 c (fun e => hbn.1 (by subst e; exact hc))) hodA
    · simp only [Value.ownBlock, Option.toList_some, List.cons_append, List.nil_append] at hnd
      have hp2 : (fA ++ b' :: (f1 ++ f ++ f2)).Perm (b' :: (f1 ++ fA ++ f2) ++ f) := by
        have e1 : (fA ++ b' :: (f1 ++ f ++ f2)).Perm (b' :: (fA ++ (f1 ++ f ++ f2))) := List.perm_middle
        refine e1.trans (List.Perm.cons b' ?_)
        have e2 : (fA ++ (f1 ++ f ++ f2)).Perm (f1 ++ fA ++ (f ++ f2)) := by
          rw [List.append_assoc f1 f f2, ← List.append_assoc fA f1]
          exact List.Perm.append_right _ List.perm_append_comm
        refine e2.trans ?_
        show List.Perm _ ((f1 ++ fA ++ f2) ++ f)
        rw [List.append_assoc (f1 ++ fA) f2 f]
        exact List.Perm.append_left _ List.perm_append_comm
      exact (List.nodup_append.1 (hp2.nodup_iff.1 hnd)).1
    · simp only [Value.ownBlock, Option.toList_some, List.cons_append, List.nil_append, List.mem_cons, List.mem_append] at hc ⊢
      rcases hc with h | ((h | h) | h)
      · exact .inr (.inl h)
      · exact .inr (.inr (.inl (.inl h)))
      · exact .inl h
      · exact .inr (.inr (.inr h))
end
end Go.GL

namespace Go.GL
open Go Go.RowKit Go.WideShapes Go.ChangeShapes Go.Deep

/-! ## 14. From the form's readings to data -/
class RD (P : Program) (α : Type) [GT P α] where
  good : α → Prop
  of : ∀ {H : Type} {enc : TypeId × Value → H} {w : World} {base : Nat} {spare : Nat → Bool} {held : Bool} {fuel : Nat} {cs : List Value} {x : DataW H × List MemPlace},
    DataW.trod enc P w base spare held fuel (GT.tid P α) cs = some x → ∃ y : α, GT.rd P w w.heap.size cs y ∧ good y
section
variable {P : Program} {α : Type} [GT P α]
theorem cellsOf_size : P.cellsOf (GT.tid P α) = GT.size P α := by
  obtain ⟨i, u, hi, hs, -, -⟩ := tiB_spec (GT.ti (P := P) (α := α))
  simp [Program.cellsOf, hi, hs]
def goodL [RD P α] (l : List α) : Prop := l.length ≤ maxLen ∧ ∀ x ∈ l, RD.good P x
theorem rdL_of [RD P α] {H : Type} {enc : TypeId × Value → H} {w : World} {base : Nat} {spare : Nat → Bool} {held : Bool} {fuel : Nat} {cs : List Value} {x : DataW H × List MemPlace} {t : TypeId} (ht : P.underlying t = some (.slice (GT.tid P α)))
    (h : DataW.trod enc P w base spare held fuel t cs = some x) : ∃ l : List α, rdL P w w.heap.size cs l ∧ goodL (P := P) l := by
  rcases open_slice ht h with ⟨rfl, -⟩ | ⟨a, len, cap, m, n, D, Pl, rfl, hb, hl, hm, hmm, -, hi⟩
  · exact ⟨[], ⟨_, rfl, by simp, .inl ⟨rfl, rfl⟩⟩, by simp, fun x hx => by cases hx⟩
  · have hlm : len ≤ m := by rw [hmm]; split <;> omega
    have key : ∀ k, k ≤ len → ∃ (l : List α) (xs : List Value), l.length = k ∧ (∀ j u, xs[j]? = some u → w.cell? (a.add j) = some u) ∧ rdAll P w w.heap.size xs l ∧ ∀ x ∈ l, RD.good P x := by
      intro k
      induction k with
      | zero => exact fun _ => ⟨[], [], rfl, fun j u hu => (by cases hu), rfl, fun x hx => (by cases hx)⟩
      | succ k ih =>
        intro hk
        obtain ⟨l, xs, h1, h2, h3, h4⟩ := ih (by omega)
        obtain ⟨cs', hc, ht'⟩ := hi k (by omega)
        obtain ⟨y, hy, hg⟩ := RD.of (P := P) (α := α) ht'
        obtain ⟨-, hcl, hat⟩ := World.cells?_some hc
        have hxl := rdAll_len h3
        refine ⟨l ++ [y], xs ++ cs', by simp [h1], fun j u hu => ?_, rdAll_app h3 ⟨cs', [], by simp, hy, rfl⟩, fun x hx => ?_⟩
        · rcases Nat.lt_or_ge j xs.length with hj | hj
          · rw [List.getElem?_append_left hj] at hu; exact h2 j u hu
          · rw [List.getElem?_append_right hj] at hu
            have hjc := (List.getElem?_eq_some_iff.1 hu).1
            have := hat (j - xs.length) (by omega)
            rw [hu, Go.GL.add_add, cellsOf_size, ← h1, ← hxl, show xs.length + (j - xs.length) = j by omega] at this
            exact this
        · rcases List.mem_append.1 hx with h | h
          · exact h4 x h
          · simp at h; subst h; exact hg
    obtain ⟨l, xs, h1, h2, h3, h4⟩ := key len (Nat.le_refl _)
    subst h1
    refine ⟨l, ⟨_, rfl, by omega, .inr ⟨a, cap, xs, rfl, hl, hm, fun hne => ?_, h2, h3⟩⟩, by omega, h4⟩
    match xs, hne with
    | u :: r, _ =>
      have := h2 0 u rfl
      have hlt := World.block_lt_of_cell? w _ this
      rwa [block_add] at hlt
@[reducible] def RD.list [RD P α] [GT P (List α)] (ht : P.underlying (GT.tid P (List α)) = some (.slice (GT.tid P α))) (hrd : ∀ {w B cs} {l : List α}, rdL P w B cs l → GT.rd P w B cs l) : RD P (List α) where
  good := goodL (P := P)
  of := fun h => by
    obtain ⟨l, h1, h2⟩ := rdL_of (α := α) ht h
    exact ⟨l, hrd h1, h2⟩
def InR (x : Int) : Prop := -9223372036854775808 ≤ x ∧ x ≤ 9223372036854775807
theorem wf_inR {x : Int} (h : (Lit.int .i64 x).wf = true) : InR x := by
  simp [Lit.wf, IntKind.min, IntKind.max, IntKind.signed, IntKind.bits] at h
  exact h

/-! ## 15. The row's last step -/
theorem trodAll_stays {H : Type} {enc : TypeId × Value → H} {W W' : World} (hl : laidOutB P = true) (hb : Below W.heap.size W W') (sp : Nat → Bool) : ∀ {ts : List TypeId} {vs : List Value} {ds : List (DataW H)} {ps : List MemPlace},
    ts.all (fun t => P.readableRec t && Nat.blt t P.types.size) = true → DataW.TrodAll enc P W 0 (fun _ => true) true ts vs ds ps → (∀ p ∈ ps, p.block < W.heap.size) → (∀ p ∈ ps, sp p.block = true) → DataW.TrodAll enc P W' 0 sp true ts vs ds ps
  | [], _, _, _, _, h, _, _ => by obtain ⟨rfl, rfl, rfl⟩ := trodAll_nil h; exact trodAll_mk0
  | t :: ts, _, _, _, ht, h, hlt, hsp => by
    obtain ⟨v, vs, d, ds, p, q, rfl, rfl, rfl, h1, h2⟩ := trodAll_cons h
    simp only [List.all_cons, Bool.and_eq_true] at ht
    obtain ⟨⟨hr, hrow⟩, ht'⟩ := ht
    have hrow' : t < P.types.size := Nat.blt_eq ▸ hrow
    exact trodAll_cons_mk (WideElems.Trod_stays hl hr hrow' h1 (fun x hx => hb.same (hlt x (by simp [hx]))) (fun x hx => hsp x (by simp [hx])))
      (trodAll_stays hl hb sp (by rw [List.all_eq_true]; simpa using ht') h2 (fun x hx => hlt x (by simp [hx])) (fun x hx => hsp x (by simp [hx])))
theorem post_below {H : Type} {enc : TypeId × Value → H} {f : Func} {s : ChangeSpec} {apart fresh handsOn again : Bool} {W W' : World} {args : Array Value} {v : Value} {ds gs : List (DataW H)} {before pa pv : List MemPlace}
    (hW : DataW.Whole enc P f.params.toList s.vars apart W args.toList ds gs before)
    (hres : ∀ (b : Nat) (sp : Nat → Bool) (hd : Bool), DataW.TrodAll enc P W' b sp hd f.resultTypes.toList (v.resultList f.resultTypes.size) (s.fn H (ds ++ gs)).results [])
    (hargs : ∀ sp : Nat → Bool, (∀ p ∈ before, sp p.block = true) → DataW.TrodAll enc P W' 0 sp true f.params.toList args.toList (s.fn H (ds ++ gs)).args pa)
    (hvars : ∀ sp : Nat → Bool, (∀ p ∈ before, sp p.block = true) → DataW.TrodVars enc P W' sp s.vars (s.fn H (ds ++ gs)).vars pv)
    (hps : before = pa ++ pv) (hb : Below W.heap.size W W')
    (hok : ∀ (j : Nat) (t : TypeId) (r : Value), f.resultTypes[j]? = some t → (v.resultList f.resultTypes.size)[j]? = some r → Value.okWide P W' .any 0 t r) :
    s.post enc P f apart fresh handsOn again W args v W' := by
  have hlt : ∀ p ∈ before, p.block < W.heap.size := fun p hp => hW.lt p hp
  have hold : ∀ p ∈ before, (fun b => decide (b < W.heap.size)) p.block = true := fun p hp => by simpa using hlt p hp
  refine ⟨ds, gs, before, [], pa, pv, hW, hres _ _ _, hargs _ hold, hvars _ hold, World.keptBut_mono (fun p hp => ⟨hp, ?_⟩) (hb.frame (· ∈ before)), fun _ => ?_⟩
  · rw [hps, List.mem_append] at hp
    exact Or.inr hp
  · obtain ⟨_, _, _, _, _, hz, hn⟩ := hW
    refine ⟨hok, _, _, ([] ++ pa) ++ pv, ⟨[] ++ pa, pv, trodAll_append (hargs _ (fun _ _ => rfl)) (hres _ _ _), hvars _ (fun _ _ => rfl), rfl, ?_, ?_⟩, ?_⟩
    · intro b off hp
      have hin : MemPlace.cell b off ∈ before := by rw [hps]; simpa using hp
      rw [hb.frozen (hlt _ hin)]
      exact hz b off hin
    · intro ha
      have := hn ha
      rw [hps] at this
      simpa using this
    · intro p hp _
      rw [hps]
      simpa using hp
end
end Go.GL

namespace Go.GL
open Go Go.RowKit Go.WideShapes Go.ChangeShapes Go.Deep

/-! ## 16. Readings of structs -/
def ftB (P : Program) (t : TypeId) (n : Nat) (L : List (Nat × TypeId)) : Bool :=
  match P.underlying t with
  | some (.struct fs) => (fs.toList.map fun f => (f.offset, f.type)) == L && Nat.beq (P.cellsOf t) n && L.all fun p => Nat.beq (P.cellsOf p.2) 1
  | _ => false
theorem trod_ft {P : Program} {t : TypeId} {n : Nat} {L : List (Nat × TypeId)} {H : Type} {enc : TypeId × Value → H} {w : World} {base : Nat} {spare : Nat → Bool} {held : Bool} {fuel : Nat} {cs : List Value} {x : DataW H × List MemPlace}
    (hb : ftB P t n L = true) (h : DataW.trod enc P w base spare held fuel t cs = some x) :
    cs.length = n ∧ ∀ (i off : Nat) (ft : TypeId) (c : Value), L[i]? = some (off, ft) → cs[off]? = some c → ∃ y m, DataW.trod enc P w base spare held m ft [c] = some y := by
  unfold ftB at hb
  split at hb
  · rename_i fs hu
    simp only [Bool.and_eq_true, beq_iff_eq] at hb
    obtain ⟨⟨hL, hn⟩, hc⟩ := hb
    obtain ⟨xs, m, -, -, hl, hlen, hf⟩ := DataW.trod_struct hu h
    refine ⟨by rw [hl, Nat.eq_of_beq_eq_true hn], fun i off ft c hi hcs => ?_⟩
    subst hL
    obtain ⟨f, hfi, he⟩ : ∃ f, fs[i]? = some f ∧ (f.offset, f.type) = (off, ft) := by
      rw [List.getElem?_map, Option.map_eq_some_iff] at hi
      obtain ⟨f, h1, h2⟩ := hi
      exact ⟨f, by simpa using h1, h2⟩
    have h1 := hf i f hfi
    obtain ⟨rfl, rfl⟩ := Prod.mk.inj he
    have hone : P.cellsOf f.type = 1 := by
      have := List.all_eq_true.1 hc (f.offset, f.type) (List.mem_of_getElem? hi)
      exact Nat.eq_of_beq_eq_true this
    have hlt : i < xs.length := by rw [hlen]; exact (Array.getElem?_eq_some_iff.1 hfi).1
    obtain ⟨hcl, hce⟩ := List.getElem?_eq_some_iff.1 hcs
    rw [hone, List.drop_eq_getElem_cons hcl, hce, List.getElem?_eq_getElem hlt] at h1
    exact ⟨xs[i], m, h1⟩
  · cases hb
theorem okWide_ft {P : Program} {t : TypeId} {n : Nat} {L : List (Nat × TypeId)} {w : World} {r : Reach} {base : Nat} {v : Value} (hb : ftB P t n L = true) (h : Value.okWide P w r base t v) : ∃ cs, v = .agg cs := by
  unfold ftB at hb
  split at hb
  · rename_i fs hu
    obtain ⟨cs, h1, -⟩ := okWide_struct hu h
    exact ⟨cs, h1⟩
  · cases hb
end Go.GL

namespace Go.GL
open Go Go.RowKit

/-! ## 17. Pure: small facts, loops over an index -/
theorem W_id {n : Int} (h1 : -9223372036854775808 ≤ n) (h2 : n ≤ 9223372036854775807) : IntKind.i64.wrap n = n := W64_id h1 h2
theorem W_succ {i n : Nat} (h : i < n) (hn : n ≤ maxLen) : IntKind.i64.wrap ((i : Int) + 1) = ((i + 1 : Nat) : Int) := by
  unfold maxLen at hn
  rw [W_id (by omega) (by omega)]; omega
theorem W_pred {n : Nat} (h : 1 ≤ n) (hn : n ≤ maxLen) : IntKind.i64.wrap ((n : Int) - 1) = ((n - 1 : Nat) : Int) := by
  unfold maxLen at hn
  rw [W_id (by omega) (by omega)]; omega
theorem dlt_t {a b : Nat} (h : a < b) : decide ((a : Int) < (b : Int)) = true := decide_eq_true (by omega)
theorem dlt_f {a b : Nat} (h : ¬ a < b) : decide ((a : Int) < (b : Int)) = false := decide_eq_false (by omega)
theorem bne_t {α : Type} [BEq α] [LawfulBEq α] {a b : α} (h : a ≠ b) : (a != b) = true := by simp [h]
theorem bne_f {α : Type} [BEq α] [LawfulBEq α] {a b : α} (h : a = b) : (a != b) = false := by simp [h]
theorem idx0 {α β : Type} {l : List α} {k : α → Option β} (h : 0 < l.length) : idx l 0 k = k l[0] := idx_nat (i := 0) h
theorem beq_nat {n : Nat} (m : Nat) : ((n : Int) == (m : Int)) = Nat.beq n m := by
  rw [Bool.eq_iff_iff]; simp; omega
theorem bne_nat {n : Nat} (m : Nat) : ((n : Int) != (m : Int)) = !Nat.beq n m := by rw [bne, beq_nat]
theorem up {n : Nat} {P : Nat → Nat → Prop} (he : ∀ f, P n (f + 1)) (hs : ∀ i f, i < n → P (i + 1) f → P i (f + 1)) : ∀ k i f, i + k = n → k < f → P i f := by
  intro k
  induction k with
  | zero => intro i f h hf; obtain ⟨m, rfl⟩ : ∃ m, f = m + 1 := ⟨f - 1, by omega⟩; rw [show i = n by omega]; exact he m
  | succ k ih => intro i f h hf; obtain ⟨m, rfl⟩ : ∃ m, f = m + 1 := ⟨f - 1, by omega⟩; exact hs i m (by omega) (ih (i + 1) m (by omega) (by omega))
/-- the same, from nought, with all the fuel that a loop over a list is given -/
theorem up0 {n : Nat} {P : Nat → Nat → Prop} (he : ∀ f, P n (f + 1)) (hs : ∀ i f, i < n → P (i + 1) f → P i (f + 1)) : P 0 (n + 1) := up he hs n 0 (n + 1) (by omega) (by omega)

/-! sizes -/
def dec (x : Int) (n : Nat) : Int := if (n : Int) ≤ x then x - n else -1
theorem dec_neg {x : Int} {n : Nat} (h : ¬ (n : Int) ≤ x) : dec x n = -1 := if_neg h
theorem dec_pos {x : Int} {n : Nat} (h : (n : Int) ≤ x) : dec x n = x - n := if_pos h
theorem dec_add (x : Int) (n m : Nat) : (if dec x n < 0 then (-1 : Int) else dec (dec x n) m) = dec x (n + m) := by
  unfold dec
  split <;> split <;> split <;> first | omega | rfl | skip
  all_goals first | omega | (exfalso; omega) | skip
  all_goals simp_all
  all_goals omega
theorem dec_le {x : Int} {n : Nat} (h : 0 ≤ x) : dec x n ≤ x ∧ -1 ≤ dec x n := by unfold dec; split <;> omega
section
variable {α β : Type}
theorem sz_loop {l : List α} {F : Nat → Int → Int → Option Int} {S : α → Int → Option Int} {w : α → Nat}
    (hF : ∀ f x i, F (f + 1) x i = bif decide (i < (l.length : Int)) then (idx l i fun e => (S e x).bind fun y => bif decide (y < 0) then some (-1) else F f y (IntKind.i64.wrap (i + 1))) else some x)
    (hl : l.length ≤ maxLen) (hS : ∀ e ∈ l, ∀ x, 0 ≤ x → x ≤ 1048576 → S e x = some (dec x (w e))) :
    ∀ k i f, i + k = l.length → k < f → ∀ x, 0 ≤ x → x ≤ 1048576 → F f x (i : Int) = some (dec x ((l.drop i).map w).sum) := by
  refine up (P := fun i f => ∀ x, 0 ≤ x → x ≤ 1048576 → F f x (i : Int) = some (dec x ((l.drop i).map w).sum)) (fun f x h0 hx => ?_) (fun i f hi ih x h0 hx => ?_)
  · rw [hF, dlt_f (by omega), cond_false, List.drop_length, List.map_nil, List.sum_nil, dec_pos (by omega)]; simp
  · rw [hF, dlt_t hi, cond_true, idx_nat hi, hS _ (List.getElem_mem hi) x h0 hx, Option.bind_some, W_succ hi hl, List.drop_eq_getElem_cons hi, List.map_cons, List.sum_cons, ← dec_add]
    by_cases hc : dec x (w l[i]) < 0
    · rw [decide_eq_true hc, if_pos hc]; rfl
    · rw [decide_eq_false hc, if_neg hc, cond_false]
      exact ih _ (by omega) (Int.le_trans (dec_le h0).1 hx)
theorem szS_eq {l : List α} {F : Nat → Int → Int → Option Int} {S : α → Int → Option Int} (w : α → Nat)
    (hF : ∀ f x i, F (f + 1) x i = bif decide (i < (l.length : Int)) then (idx l i fun e => (S e x).bind fun y => bif decide (y < 0) then some (-1) else F f y (IntKind.i64.wrap (i + 1))) else some x)
    (hl : l.length ≤ maxLen) (hS : ∀ e ∈ l, ∀ x, 0 ≤ x → x ≤ 1048576 → S e x = some (dec x (w e))) (x : Int) (h0 : 0 ≤ x) (hx : x ≤ 1048576) :
    (bif decide (IntKind.i64.wrap (x - (l.length : Int)) < 0) then some (-1) else F (l.length + 1) (IntKind.i64.wrap (x - (l.length : Int))) 0) = some (dec x (l.length + (l.map w).sum)) := by
  have hl' := hl
  unfold maxLen at hl'
  rw [W_id (by omega) (by omega), ← dec_add]
  by_cases h : (l.length : Int) ≤ x
  · have := sz_loop hF hl hS l.length 0 (l.length + 1) (by omega) (by omega) (x - l.length) (by omega) (by omega)
    rw [decide_eq_false (by omega), cond_false, dec_pos h, if_neg (by omega)]
    exact this
  · rw [decide_eq_true (by omega), dec_neg h]; rfl
theorem sz_leaf {x : Int} {n : Nat} (h0 : 0 ≤ x) (hx : x ≤ 1048576) (hn : n ≤ maxLen) :
    (bif decide (IntKind.i64.wrap (x - (n : Int)) < 0) then some (-1) else some (IntKind.i64.wrap (x - (n : Int)))) = some (dec x n) := by
  unfold maxLen at hn
  rw [W_id (by omega) (by omega)]
  by_cases h : (n : Int) ≤ x
  · rw [decide_eq_false (by omega), dec_pos h]; rfl
  · rw [decide_eq_true (by omega), dec_neg h]; rfl
/-- one part behind another -/
theorem sz_then {x : Int} {n m : Nat} {k : Int → Option Int} (h0 : 0 ≤ x) (hx : x ≤ 1048576) (hk : ∀ y, 0 ≤ y → y ≤ 1048576 → k y = some (dec y m)) :
    (bif decide (dec x n < 0) then some (-1) else k (dec x n)) = some (dec x (n + m)) := by
  rw [← dec_add]
  by_cases hc : dec x n < 0
  · rw [decide_eq_true hc, if_pos hc]; rfl
  · rw [decide_eq_false hc, if_neg hc, cond_false]
    exact hk _ (by omega) (Int.le_trans (dec_le h0).1 hx)

/-! copies -/
theorem to_loop {l : List α} {F : Nat → List β → Int → Option (List β)} {T : α → Option β} {t : α → β}
    (hF : ∀ f acc i, F (f + 1) acc i = bif decide (i < (l.length : Int)) then (idx l i fun e => (T e).bind fun y => idx acc i fun _ => F f (acc.set (Int.toNat i) y) (IntKind.i64.wrap (i + 1))) else some acc)
    (hl : l.length ≤ maxLen) (hT : ∀ e ∈ l, T e = some (t e)) :
    ∀ k i f, i + k = l.length → k < f → ∀ acc : List β, acc.length = l.length → F f acc (i : Int) = some (acc.take i ++ (l.drop i).map t) := by
  refine up (P := fun i f => ∀ acc : List β, acc.length = l.length → F f acc (i : Int) = some (acc.take i ++ (l.drop i).map t)) (fun f acc ha => ?_) (fun i f hi ih acc ha => ?_)
  · rw [hF, dlt_f (by omega), cond_false, List.drop_length, List.take_of_length_le (by omega)]; simp
  · rw [hF, dlt_t hi, cond_true, idx_nat hi, hT _ (List.getElem_mem hi), Option.bind_some, idx_nat (by omega : i < acc.length), W_succ hi hl, Int.toNat_natCast, ih _ (by simpa using ha)]
    congr 1
    rw [List.drop_eq_getElem_cons hi, List.map_cons, List.take_succ_eq_append_getElem (by simp; omega)]
    simp only [List.take_set, List.getElem_set_self, List.append_assoc, List.singleton_append]
    rw [List.set_eq_of_length_le (by simp; omega)]
theorem toS_eq {l : List α} {F : Nat → List β → Int → Option (List β)} {T : α → Option β} (t : α → β) (z : β)
    (hF : ∀ f acc i, F (f + 1) acc i = bif decide (i < (l.length : Int)) then (idx l i fun e => (T e).bind fun y => idx acc i fun _ => F f (acc.set (Int.toNat i) y) (IntKind.i64.wrap (i + 1))) else some acc)
    (hl : l.length ≤ 1048576) (hT : ∀ e ∈ l, T e = some (t e)) :
    (mk z (l.length : Int) fun _ => F (l.length + 1) (List.replicate (Int.toNat (l.length : Int)) z) 0) = some (l.map t) := by
  unfold mk
  rw [grd_eq (decide_eq_true (by omega)), grd_eq (decide_eq_true (by omega))]
  have h := to_loop hF (by unfold maxLen; omega) hT l.length 0 (l.length + 1) (by omega) (by omega) (List.replicate (Int.toNat (l.length : Int)) z) (by simp)
  simpa using h

/-! equality -/
theorem eq_loop [DecidableEq α] {a b : List α} {F : Nat → Int → Option Bool} {E : α → α → Option Bool}
    (hF : ∀ f i, F (f + 1) i = bif decide (i < (a.length : Int)) then (idx a i fun x => idx b i fun y => (E x y).bind fun r => bif !r then some false else F f (IntKind.i64.wrap (i + 1))) else some true)
    (hl : a.length ≤ maxLen) (hb : a.length = b.length) (hE : ∀ x ∈ a, ∀ y ∈ b, E x y = some (decide (x = y))) :
    ∀ k i f, i + k = a.length → k < f → F f (i : Int) = some (decide (a.drop i = b.drop i)) := by
  refine up (P := fun i f => F f (i : Int) = some (decide (a.drop i = b.drop i))) (fun f => ?_) (fun i f hi ih => ?_)
  · rw [hF, dlt_f (by omega), cond_false, List.drop_length, List.drop_of_length_le (by omega)]; simp
  · have hi2 : i < b.length := by omega
    rw [hF, dlt_t hi, cond_true, idx_nat hi, idx_nat hi2, hE _ (List.getElem_mem hi) _ (List.getElem_mem hi2), Option.bind_some, W_succ hi hl, ih, List.drop_eq_getElem_cons hi, List.drop_eq_getElem_cons hi2]
    by_cases h : a[i] = b[i]
    · rw [decide_eq_true h]; simp only [Bool.not_true, cond_false, List.cons.injEq, h, true_and]
    · rw [decide_eq_false h]; simp only [Bool.not_false, cond_true, List.cons.injEq, h, false_and, decide_false]
theorem eqS_eq [DecidableEq α] {a b : List α} {F : Nat → Int → Option Bool} {E : α → α → Option Bool}
    (hF : ∀ f i, F (f + 1) i = bif decide (i < (a.length : Int)) then (idx a i fun x => idx b i fun y => (E x y).bind fun r => bif !r then some false else F f (IntKind.i64.wrap (i + 1))) else some true)
    (hl : a.length ≤ maxLen) (hE : ∀ x ∈ a, ∀ y ∈ b, E x y = some (decide (x = y))) :
    (bif (a.length : Int) != (b.length : Int) then some false else F (a.length + 1) 0) = some (decide (a = b)) := by
  by_cases h : a.length = b.length
  · rw [show ((a.length : Int) != (b.length : Int)) = false from bne_f (by omega), cond_false]
    have := eq_loop hF hl h hE a.length 0 (a.length + 1) (by omega) (by omega)
    simpa using this
  · rw [show ((a.length : Int) != (b.length : Int)) = true from bne_t (by omega), cond_true]
    have : ¬ a = b := fun e => h (by rw [e])
    simp [this]
end
theorem le_sum {α : Type} {w : α → Nat} {l : List α} {e : α} (h : e ∈ l) : w e ≤ (l.map w).sum := by
  induction l with
  | nil => cases h
  | cons a r ih =>
    rw [List.map_cons, List.sum_cons]
    rcases List.mem_cons.1 h with rfl | h
    · omega
    · have := ih h; omega
theorem sz_leaf_then {x : Int} {n m : Nat} {k : Int → Option Int} (h0 : 0 ≤ x) (hx : x ≤ 1048576) (hn : n ≤ maxLen) (hk : ∀ y, 0 ≤ y → y ≤ 1048576 → k y = some (dec y m)) :
    (bif decide (IntKind.i64.wrap (x - (n : Int)) < 0) then some (-1) else k (IntKind.i64.wrap (x - (n : Int)))) = some (dec x (n + m)) := by
  unfold maxLen at hn
  rw [W_id (by omega) (by omega), ← dec_add]
  by_cases h : (n : Int) ≤ x
  · rw [decide_eq_false (by omega), dec_pos h, if_neg (by omega)]; exact hk _ (by omega) (by omega)
  · rw [decide_eq_true (by omega), dec_neg h]; rfl
theorem dec_zero {x : Int} (h : 0 ≤ x) : dec x 0 = x := by rw [dec_pos (by omega)]; simp
theorem beq_dec {α : Type} [BEq α] [LawfulBEq α] [DecidableEq α] (x y : α) : (x == y) = decide (x = y) := by
  by_cases h : x = y <;> simp [h]
/-! checks along a list -/
theorem all_loop {n : Nat} {F : Nat → Int → Option Bool} (c : Nat → Bool) {d : Bool} (he : ∀ f, F (f + 1) (n : Int) = some d)
    (hs : ∀ i f, i < n → F (f + 1) (i : Int) = bif c i then F f ((i + 1 : Nat) : Int) else some false) : F (n + 1) 0 = some (decide (∀ i, i < n → c i = true) && d) := by
  have key : ∀ k i f, i + k = n → k < f → F f (i : Int) = some (decide (∀ j, j < n → i ≤ j → c j = true) && d) := by
    refine up (P := fun i f => F f (i : Int) = some (decide (∀ j, j < n → i ≤ j → c j = true) && d)) (fun f => ?_) (fun i f hi ih => ?_)
    · rw [he, decide_eq_true (fun j h1 h2 => by omega), Bool.true_and]
    · rw [hs i f hi]
      cases hc : c i with
      | false => rw [cond_false, decide_eq_false (fun h => by rw [h i hi (Nat.le_refl _)] at hc; cases hc), Bool.false_and]
      | true =>
        rw [cond_true, ih]
        congr 2
        rw [decide_eq_decide]
        refine ⟨fun h j h1 h2 => ?_, fun h j h1 h2 => h j h1 (by omega)⟩
        rcases Nat.lt_or_eq_of_le h2 with h3 | h3
        · exact h j h1 h3
        · subst h3; exact hc
  have := key n 0 (n + 1) (by omega) (by omega)
  rw [show F (n + 1) 0 = _ from this]
  congr 2
  rw [decide_eq_decide]
  exact ⟨fun h j h1 => h j h1 (Nat.zero_le _), fun h j h1 _ => h j h1⟩
/-- two neighbours -/
def pairAt {α : Type} (R : α → α → Bool) (l : List α) : Nat → Bool
  | 0 => true
  | j + 1 => match l[j]?, l[j + 1]? with
    | some a, some b => R a b
    | _, _ => false
theorem pairAt_succ {α : Type} {R : α → α → Bool} {l : List α} {j : Nat} (h : j + 1 < l.length) : pairAt R l (j + 1) = R (l[j]'(by omega)) l[j + 1] := by
  show (match l[j]?, l[j + 1]? with | some a, some b => R a b | _, _ => false) = _
  rw [List.getElem?_eq_getElem (by omega), List.getElem?_eq_getElem h]
theorem pair_code {α : Type} {R : α → α → Bool} {l : List α} {i : Nat} (hi : i < l.length) (hl : l.length ≤ maxLen) {K : α → Option Bool} (hK : ∀ x ∈ l, K x = some (!R x l[i])) :
    (bif decide ((i : Int) > 0) then idx l (IntKind.i64.wrap ((i : Int) - 1)) K else some false) = some (!pairAt R l i) := by
  cases i with
  | zero => rfl
  | succ j =>
    rw [decide_eq_true (by omega), cond_true, W_pred (by omega) (by omega), idx_nat (by omega), hK _ (List.getElem_mem _), pairAt_succ hi]
    rfl
theorem pair_code' {α β : Type} {R : α → α → Bool} {l : List α} {i : Nat} (hi : i < l.length) (hl : l.length ≤ maxLen) {Z B : Option β} {K : α → Option β} (hK : ∀ x ∈ l, K x = bif R x l[i] then Z else B) :
    (bif decide ((i : Int) > 0) then idx l (IntKind.i64.wrap ((i : Int) - 1)) K else Z) = bif pairAt R l i then Z else B := by
  cases i with
  | zero => rfl
  | succ j =>
    rw [decide_eq_true (by omega), cond_true, W_pred (by omega) (by omega), idx_nat (by omega), hK _ (List.getElem_mem _), pairAt_succ hi]
    rfl
theorem dec_nn {x : Int} {n : Nat} (h : ¬ dec x n < 0) : (n : Int) ≤ x := by
  unfold dec at h
  split at h
  · assumption
  · omega
end Go.GL

namespace Go.GL
open Go Go.RowKit

/-! ## 18. Lending: a part of what the call owns goes to another call, and comes back -/
section
variable {P : Program} {N : Nat} {Q : Exit → Act → World → Prop} {env : Env} {w w' w0 wq : World} {ops : Array Oper} {rest : List Oper}
  {d : Nat} {t ty : TypeId} {pos : String} {af : Array Edge} {L : List Nat} {As R : List HP} {S : World → Prop} {E : Nat → Bool} {fuel : Nat} {listed : Array Bool}
  {α β : Type} [GT P α] [GT P β]
theorem SepL.unapp {w : World} {As Bs : List HP} : ∀ {fp : List Nat}, SepL w (As ++ Bs) fp → ∃ f g, fp = f ++ g ∧ SepL w As f ∧ SepL w Bs g := by
  induction As with
  | nil => exact fun {fp} h => ⟨[], fp, rfl, rfl, h⟩
  | cons A r ih =>
    rintro fp ⟨f, g, hA, hr, rfl⟩
    obtain ⟨f1, f2, rfl, h1, h2⟩ := ih hr
    exact ⟨f ++ f1, f2, by simp, ⟨f, f1, hA, h1, rfl⟩, h2⟩
theorem nodup_mid {a b f f' : List Nat} {n : Nat} (h : (a ++ f ++ b).Nodup) (hn : f'.Nodup) (hlt : ∀ x ∈ a ++ b, x < n) (hin : ∀ x ∈ f', x ∈ f ∨ n ≤ x) : (a ++ f' ++ b).Nodup := by
  have hd : ∀ x ∈ f', x ∉ a ++ b := by
    intro x hx hab
    rcases hin x hx with h1 | h1
    · rw [List.nodup_append] at h
      obtain ⟨h12, _, hd2⟩ := h
      rw [List.nodup_append] at h12
      obtain ⟨_, _, hd1⟩ := h12
      rcases List.mem_append.1 hab with h2 | h2
      · exact hd1 x h2 x h1 rfl
      · exact hd2 x (by simp [h1]) x h2 rfl
    · have := hlt x hab; omega
  rw [List.nodup_append] at h ⊢
  obtain ⟨h12, hn2, hd2⟩ := h
  rw [List.nodup_append] at h12
  refine ⟨List.nodup_append.2 ⟨h12.1, hn, fun x hx y hy e => hd y hy (by subst e; simp [hx])⟩, hn2, fun x hx y hy e => ?_⟩
  subst e
  rcases List.mem_append.1 hx with h1 | h1
  · exact hd2 x (by simp [h1]) x hy rfl
  · exact hd x h1 (by simp [hy])
theorem St.frameR (h : St w0 L w (As ++ R)) : ∃ fp, St w fp w As ∧ (∀ b ∈ fp, b ∈ L ∨ w0.heap.size ≤ b) ∧ ∀ (w' : World) (Bs : List HP), St w fp w' Bs → St w0 L w' (Bs ++ R) := by
  obtain ⟨fp, hs, hn, hb⟩ := h.sep
  obtain ⟨f, g, rfl, h1, h2⟩ := hs.unapp
  have hnf := (List.nodup_append.1 hn).1
  refine ⟨f, ⟨rfl, rfl, rfl, Nat.le_refl _, fun _ _ _ => rfl, f, h1, hnf, fun b hbm => ⟨.inl hbm, (hb b (by simp [hbm])).2⟩⟩, fun b hbm => (hb b (by simp [hbm])).1, fun w' Bs hx => ?_⟩
  obtain ⟨f', hs', hn', hb'⟩ := hx.sep
  refine ⟨hx.os.trans h.os, hx.tape.trans h.tape, hx.output.trans h.output, Nat.le_trans h.size hx.size, fun b hb0 hl => ?_, f' ++ g, ?_, ?_, ?_⟩
  · refine (hx.block b (Nat.lt_of_lt_of_le hb0 h.size) (fun hbf => ?_)).trans (h.block b hb0 hl)
    rcases (hb b (by simp [hbf])).1 with h3 | h3
    · exact hl h3
    · omega
  · refine hs'.app (h2.keep fun b hbg => hx.block b (hb b (by simp [hbg])).2 (fun hbf => ?_))
    exact (List.nodup_append.1 hn).2.2 b hbf b hbg rfl
  · have := nodup_mid (a := []) (b := g) (f := f) (f' := f') (n := w.heap.size) (by simpa using hn) hn' (fun x hx => (hb x (by simp at hx; simp [hx])).2) (fun x hx => (hb' x hx).1)
    simpa using this
  · intro b hbm
    rcases List.mem_append.1 hbm with h3 | h3
    · refine ⟨?_, (hb' b h3).2⟩
      rcases (hb' b h3).1 with h4 | h4
      · exact (hb b (by simp [h4])).1
      · exact .inr (Nat.le_trans h.size h4)
    · exact ⟨(hb b (by simp [h3])).1, Nat.lt_of_lt_of_le (hb b (by simp [h3])).2 hx.size⟩
theorem St.belowB {B : Nat} (h : St w0 L w As) (hL : ∀ b ∈ L, B ≤ b) (hB : B ≤ w0.heap.size) : Below B w0 w :=
  ⟨h.os, h.tape, h.output, h.size, fun b hb => h.block b (Nat.lt_of_lt_of_le hb hB) (fun hm => by have := hL b hm; omega)⟩
/-- the slice that lies within an element -/
structure Lens (P : Program) (α β : Type) [GT P α] [GT P β] (off : Nat) where
  get : α → List β
  set : α → List β → α
  law : ∀ {w : World} {cs : List Value} {x : α} {f : List Nat}, GT.od P w cs x f → ∃ u f1 fe f2, cs[off]? = some u ∧ odL P w [u] (get x) fe ∧ f = f1 ++ fe ++ f2 ∧
    ∀ (w' : World) (e' : List β) (fe' : List Nat), (∀ b ∈ f1 ++ f2, w'.heap[b]? = w.heap[b]?) → odL P w' [u] e' fe' → GT.od P w' cs (set x e') (f1 ++ fe' ++ f2)
theorem ownsRow_keep {w w' : World} {t : TypeId} {s : Nat} {v : Value} {n : Nat} {xs : List Value} (hk : ∀ b ∈ v.ownBlock.toList, w'.heap[b]? = w.heap[b]?) (h : w.ownsRow 0 t s v n xs) : w'.ownsRow 0 t s v n xs := by
  obtain ⟨h1, h2⟩ := h
  refine ⟨h1, ?_⟩
  rcases h2 with h2 | ⟨b, cap, cur, rfl, hb0, hb, r⟩
  · exact .inl h2
  · exact .inr ⟨b, cap, cur, rfl, hb0, (hk b (by simp [Value.ownBlock])).trans hb, r⟩
theorem St.lend_at {off : Nat} {v u : Value} {l : List α} {i : Nat} {p : Addr} {e : α} (H : St w0 L w (ownL P v l :: R)) (ln : Lens P α β off) (hp : PO (GT.size P α) v i off p) (he : l[i]? = some e)
    (hc : w.cell? (p.add 0) = some u) (hoff : Nat.blt off (GT.size P α) = true) : ∃ fp, St w fp w [ownL P u (ln.get e)] ∧ (∀ b ∈ fp, b ∈ L ∨ w0.heap.size ≤ b) ∧ ∀ (w' : World) (e' : List β), St w fp w' [ownL P u e'] → St w0 L w' (ownL P v (l.set i (ln.set e e')) :: R) := by
  have hoff' : off < GT.size P α := Nat.blt_eq ▸ hoff
  obtain ⟨fp, S1, hL, hback⟩ := St.frameR (As := [ownL P v l]) (R := R) H
  obtain ⟨fp1, ⟨fA, g0, ⟨v', xs, g, hvv, hown, hall, rfl⟩, rfl, rfl⟩, hn, hb⟩ := S1.sep
  simp only [List.cons.injEq, and_true] at hvv
  subst hvv
  simp only [List.append_nil] at hn hb
  obtain ⟨xs1, cs, xs2, f1, f, f2, rfl, hl1, rfl, hodE, hset⟩ := odAll_set hall he
  have hcl := GT.od_len hodE
  obtain ⟨u', h1, fe, h2, hu', hodu, rfl, hput⟩ := ln.law hodE
  have hil : i < l.length := (List.getElem?_eq_some_iff.1 he).1
  obtain ⟨gb, hgb, rfl⟩ := hp.nth
  -- the cell is what lies there
  have hcu : u' = u := by
    rcases hown.2 with ⟨rfl, hn0⟩ | ⟨b', cap, cur, rfl, -, hbk, hnc, hcm, hcs, htk⟩
    · cases hgb
    · simp only [Value.ownBlock, Option.some.injEq] at hgb
      subst hgb
      have hxl := hown.1
      simp only [List.length_append, hl1, hcl] at hxl
      have hget : cur[i * GT.size P α + off]? = some u' := by
        rw [← Array.getElem?_toList, ← List.take_append_drop (l.length * GT.size P α) cur.toList, htk]
        rw [List.append_assoc, List.append_assoc, ← hl1, List.getElem?_append_right (by omega), show xs1.length + off - xs1.length = off by omega, List.getElem?_append_left (by omega)]
        exact hu'
      have hc2 : w.cell? ⟨b', i * GT.size P α + off, none⟩ = some u' := by
        unfold World.cell?
        simp only [hbk]
        exact hget
      have hadd : (⟨b', i * GT.size P α + off, none⟩ : Addr).add 0 = ⟨b', i * GT.size P α + off, none⟩ := by simp [Addr.add]
      rw [hadd, hc2] at hc
      exact Option.some.inj hc
  subst hcu
  have hnfe : fe.Nodup := by
    have h3 := (List.nodup_append.1 hn).2.1
    have h4 := (List.nodup_append.1 (List.nodup_append.1 h3).1).2.1
    exact (List.nodup_append.1 (List.nodup_append.1 h4).1).2.1
  have hbfe : ∀ b ∈ fe, b < w.heap.size := fun b hbm => (hb b (by simp [hbm])).2
  refine ⟨fe, St.lent hodu hnfe hbfe, fun b hbm => hL b ?_, fun w' e' hx => hback w' [ownL P v (l.set i (ln.set e e'))] ?_⟩
  · rcases (hb b (by simp [hbm])).1 with h3 | h3
    · exact h3
    · have := hbfe b hbm; omega
  obtain ⟨fe0, ⟨fe', g0, hodu', rfl, rfl⟩, hn', hb'⟩ := hx.sep
  simp only [List.append_nil] at hn' hb'
  have hreb : v.ownBlock.toList ++ (f1 ++ (h1 ++ fe ++ h2) ++ f2) = (v.ownBlock.toList ++ f1 ++ h1) ++ fe ++ (h2 ++ f2) := by simp
  have hreb' : v.ownBlock.toList ++ (f1 ++ (h1 ++ fe' ++ h2) ++ f2) = (v.ownBlock.toList ++ f1 ++ h1) ++ fe' ++ (h2 ++ f2) := by simp
  have hdis : ∀ b, b ∈ (v.ownBlock.toList ++ f1 ++ h1) ++ (h2 ++ f2) → b ∉ fe := by
    rw [hreb, List.nodup_append] at hn
    obtain ⟨h12, _, hd2⟩ := hn
    rw [List.nodup_append] at h12
    intro b hb1 hbf
    rcases List.mem_append.1 hb1 with h3 | h3
    · exact h12.2.2 b h3 b hbf rfl
    · exact hd2 b (List.mem_append_right _ hbf) b h3 rfl
  have hlt : ∀ b, b ∈ (v.ownBlock.toList ++ f1 ++ h1) ++ (h2 ++ f2) → b < w.heap.size := fun b hb1 => (hb b (by rw [hreb]; rcases List.mem_append.1 hb1 with h3 | h3 <;> simp only [List.mem_append] at h3 ⊢ <;> grind)).2
  have hsame : ∀ b, b ∈ (v.ownBlock.toList ++ f1 ++ h1) ++ (h2 ++ f2) → w'.heap[b]? = w.heap[b]? := fun b hb1 => hx.block b (hlt b hb1) (hdis b hb1)
  refine ⟨hx.os, hx.tape, hx.output, hx.size, fun b hb0 hbf => hx.block b hb0 (fun hbe => hbf ?_), _, ⟨v.ownBlock.toList ++ (f1 ++ (h1 ++ fe' ++ h2) ++ f2), [], ⟨v, xs1 ++ cs ++ xs2, f1 ++ (h1 ++ fe' ++ h2) ++ f2, rfl, ?_, ?_, rfl⟩, rfl, rfl⟩, ?_, ?_⟩
  · rcases (hb b (by simp [hbe])).1 with h3 | h3
    · exact h3
    · omega
  · rw [List.length_set]; exact ownsRow_keep (fun b hbm => hsame b (by simp [hbm])) hown
  · exact hset w' cs _ _ (fun b hbm => hsame b (by rcases List.mem_append.1 hbm with h3 | h3 <;> simp [h3])) (hput w' e' fe' (fun b hbm => hsame b (by rcases List.mem_append.1 hbm with h3 | h3 <;> simp [h3])) hodu')
  · rw [List.append_nil, hreb']
    rw [hreb] at hn
    exact nodup_mid hn hn' hlt (fun x hx1 => (hb' x hx1).1)
  · intro b hbm
    rw [List.append_nil, hreb'] at hbm
    rcases List.mem_append.1 hbm with h3 | h3
    · rcases List.mem_append.1 h3 with h4 | h4
      · have := hb b (by rw [hreb]; simp only [List.mem_append] at h4 ⊢; grind)
        exact ⟨this.1, Nat.lt_of_lt_of_le this.2 hx.size⟩
      · refine ⟨?_, (hb' b h4).2⟩
        rcases (hb' b h4).1 with h5 | h5
        · exact (hb b (by simp [h5])).1
        · exact .inr h5
    · have := hb b (by rw [hreb]; simp only [List.mem_append] at h3 ⊢; grind)
      exact ⟨this.1, Nat.lt_of_lt_of_le this.2 hx.size⟩
def Lens.id (P : Program) (α : Type) [GT P α] [GT P (List α)] (h : ∀ {w : World} {cs : List Value} {x : List α} {f : List Nat}, GT.od P w cs x f ↔ odL P w cs x f) : Lens P (List α) α 0 where
  get := fun x => x
  set := fun _ y => y
  law := fun {w cs x f} hx => by
    have h0 := h.1 hx
    obtain ⟨v, xs, g, rfl, h1⟩ := _root_.id h0
    exact ⟨v, [], f, [], rfl, h0, by simp, fun w' e' fe' _ h2 => by simpa using h.2 h2⟩
/-- a slice is loaded; where it lies is kept in mind -/
theorem ld_list_c [GT P (List α)] {x : Operand} {p : Addr} {e : List α} {B : Nat} (hrd : ∀ {w B cs} {l : List α}, GT.rd P w B cs l → rdL P w B cs l) (hagg : GT.agg P (List α) = false) (ht : Nat.beq t (GT.tid P (List α)) = true) (hN : Nat.blt d N = true) (hp : PR P wq B p e) (hb : Below B wq w) (hx : ev env x = some (.pointer (some p)))
    (h : ∀ v, rdL P wq B [v] e → wq.cell? (p.add 0) = some v → rwp P N ops Q rest ((d, v) :: env) w) : rwp P N ops Q (⟨some d, .load t x, ty, pos, af, none⟩ :: rest) env w := by
  obtain rfl : t = GT.tid P (List α) := Nat.eq_of_beq_eq_true ht
  obtain ⟨h1, cs, h2, h3⟩ := hp
  have h4 := hrd h3
  obtain ⟨v, rfl, h5⟩ := _root_.id h4
  have h6 := h v h4 (h2 0 v rfl)
  refine r_val (v := toVal (GT.agg P (List α)) [v]) (w' := w) rfl rfl hN (fun a ha => by simp [execOp, ha.eval hx, run_loadAt (GT.ti (P := P) (α := List α)) (GT.one) (GT.rd_len h3) (fun j u hu => (hb.cell (p := p.add j) (by rw [block_add]; exact h1)).trans (h2 j u hu))]) ?_
  rw [hagg]
  exact h6
/-! regions that draw their order, where two may come up -/
theorem d_of_one {i : Nat} {o : Oper} (hi : ops[i]? = some o) {a : Act} (h1 : wpList P ops (dQ P ops Q S E (E i) fuel (listed.setIfInBounds i true)) [o] a w) :
    wpOp P ops Q i (fun a' w' => (E i = false → S w') ∧ anyE P ops Q S E fuel (listed.setIfInBounds i true) a' w') a w := by
  unfold wpList at h1
  unfold wpOp
  simp only [hi]
  split at h1
  · rename_i hw
    rw [if_pos hw]
    rcases h1 with h1 | ⟨h1, h2⟩
    · left
      unfold Oper.wp at h1 ⊢
      generalize (execOp a.eval o).run P w = r at *
      cases r with
      | ok n w' =>
        cases n <;> simp only [Oper.upon] at h1 ⊢ <;> first
          | exact h1
          | exact Calls.mono h1 (fun e w'' he => by cases e <;> exact he)
          | exact Rows.mono h1 (fun _ _ he => he)
      | halt x w' => cases x <;> simp only [Oper.upon] at h1 ⊢ <;> exact h1
    · right
      exact ⟨h1, by obtain ⟨a', w', h3⟩ := h2; exact ⟨a', w', h3⟩⟩
  · rename_i hw
    rw [if_neg hw]
    exact h1
theorem d_two {i j : Nat} {o q : Oper} (hi : ops[i]? = some o) (hj : ops[j]? = some q) (hr : Region.ready .any ops listed = [i, j])
    (h1 : rwp P N ops (dQ P ops Q S E (E i) fuel (listed.setIfInBounds i true)) [o] env w) (h2 : rwp P N ops (dQ P ops Q S E (E j) fuel (listed.setIfInBounds j true)) [q] env w) : awp P N ops Q S E (fuel + 1) listed env w := by
  intro a ha
  refine ⟨fun h0 => (by rw [hr] at h0; cases h0), fun m hm => ?_⟩
  rw [hr] at hm
  simp only [List.mem_cons, List.not_mem_nil, or_false] at hm
  rcases hm with rfl | rfl
  · exact d_of_one hi (h1 a ha)
  · exact d_of_one hj (h2 a ha)
theorem lendB {B : Nat} {fp : List Nat} (h : ∀ b ∈ fp, b ∈ L ∨ w0.heap.size ≤ b) (hL : ∀ b ∈ L, B ≤ b) (hB : B ≤ w0.heap.size) : ∀ b ∈ fp, B ≤ b := fun b hb => by
  rcases h b hb with h1 | h1
  · exact hL b h1
  · omega
theorem rdL_atB {B : Nat} {v : Value} {l : List α} (hb : Below B wq w) (hB : B ≤ wq.heap.size) (hr : rdL P wq B [v] l) : rdL P w w.heap.size [v] l := rdL_more (Nat.le_trans hB hb.size) (rdL_keep hb hr)
/-- []byte to string -/
theorem r_b2s [GT P UInt8] {x : Operand} {v : Value} {l : List UInt8} {k : Nat} {s tt : TypeId} (ht : P.underlying tt = some .string) (hs : slB P s (GT.tid P UInt8) = true) (hu : P.underlying (GT.tid P UInt8) = some (.int .u8)) (hN : Nat.blt d N = true)
    (henc : ∀ {w : World} {B : Nat} {cs : List Value} {y : UInt8}, GT.rd P w B cs y → cs = [.int .u8 (y.toNat : Int)]) (H : St w0 L w As) (hk : As[k]? = some (ownL P v l)) (hx : ev env x = some v)
    (h : rwp P N ops Q rest ((d, .string (BS l)) :: env) w) : rwp P N ops Q (⟨some d, .convert s tt x, ty, pos, af, none⟩ :: rest) env w := by
  have hrun : (convert s tt v).run P w = .ok (.string (BS l)) w := by
    have hr := H.rdl hk
    obtain ⟨fp, ⟨u, xs, g, hv, hown, hall, rfl⟩, hfp⟩ := H.get hk
    simp only [List.cons.injEq, and_true] at hv
    subst hv
    rcases hown.2 with ⟨rfl, hn⟩ | ⟨b, cap, cur, rfl, -, hbk, hnc, hcm, hsz, htk⟩
    · obtain rfl := List.eq_nil_of_length_eq_zero hn
      exact Go.Lib.run_convert_nil_bytes w s tt _ 0 (slB_spec hs) hu ht
    · obtain ⟨u2, hu2, -, h3⟩ := hr
      simp only [List.cons.injEq, and_true] at hu2
      subst hu2
      rcases h3 with ⟨h3, -⟩ | ⟨a, cap', xs', h3, h4, h5, h6, h7, h8⟩
      · cases h3
      · simp only [Value.slice.injEq, Option.some.injEq, true_and] at h3
        obtain ⟨rfl, rfl⟩ := h3
        have hB : Go.Lib.Bytes w b 0 (BS l) := by
          intro i hi
          rw [BS_size] at hi
          obtain ⟨cs, hcs, hat⟩ := rdAll_get h8 (List.getElem?_eq_getElem hi)
          have h1 := GT.rd_len hcs
          have he := henc hcs
          subst he
          have hs1 : GT.size P UInt8 = 1 := by simpa using h1.symm
          have h9 := h7 _ _ (hat 0 _ rfl)
          rw [hs1] at h9
          have hadd : (⟨b, 0, none⟩ : Addr).add (i * 1 + 0) = ⟨b, 0 + i, none⟩ := by
            unfold Addr.add
            split
            · rename_i h0; simp at h0; subst h0; rfl
            · simp
          rw [hadd] at h9
          rw [h9]
          have : (BS l)[i] = l[i] := by
            have h10 := BS_get l i
            rw [List.getElem?_eq_getElem hi] at h10
            have hi' : i < (BS l).size := by rw [BS_size]; exact hi
            rw [getElem?_pos (BS l) i hi'] at h10
            exact Option.some.inj h10
          exact congrArg (fun z : UInt8 => some (Value.int .u8 (z.toNat : Int))) this.symm
        have := Go.Lib.run_convert_whole (P := P) w s _ tt (slB_spec hs) hu ht b 0 (BS l) hB cap
        rw [BS_size] at this
        exact this
  exact r_val (w' := w) rfl rfl hN (fun a ha => by simp [execOp, ha.eval hx, hrun]) h
theorem u8_lit (n : Int) : Value.int .u8 (IntKind.u8.wrap n) = .int .u8 ((UInt8.ofInt (IntKind.u8.wrap n)).toNat : Int) := by
  congr 1
  have h : 0 ≤ IntKind.u8.wrap n ∧ IntKind.u8.wrap n < 256 := by
    unfold IntKind.wrap
    simp [IntKind.signed, IntKind.bits]
    omega
  generalize IntKind.u8.wrap n = m at h
  obtain ⟨j, rfl⟩ : ∃ j : Nat, m = j := ⟨m.toNat, by omega⟩
  simp [UInt8.ofInt]
  omega
end
end Go.GL

namespace Go.GL
open Go Go.RowKit

/-! ## 19. Bits -/
theorem ofInt_nat (n : Nat) : BitVec.ofInt 64 (n : Int) = BitVec.ofNat 64 n := BitVec.ofInt_natCast 64 n
theorem or64 {m n : Nat} (hm : m < 9223372036854775808) (hn : n < 9223372036854775808) : ibits .or .i64 m n = ((m ||| n : Nat) : Int) := by
  show IntKind.i64.wrap (BitVec.ofInt 64 m ||| BitVec.ofInt 64 n).toNat = _
  rw [ofInt_nat, ofInt_nat, BitVec.toNat_or, BitVec.toNat_ofNat, BitVec.toNat_ofNat, Nat.mod_eq_of_lt (by omega), Nat.mod_eq_of_lt (by omega)]
  have : m ||| n < 2 ^ 63 := Nat.or_lt_two_pow (by omega) (by omega)
  exact W_id (by omega) (by omega)
theorem and64 {m n : Nat} (hm : m < 9223372036854775808) (hn : n < 9223372036854775808) : ibits .and .i64 m n = ((m &&& n : Nat) : Int) := by
  show IntKind.i64.wrap (BitVec.ofInt 64 m &&& BitVec.ofInt 64 n).toNat = _
  rw [ofInt_nat, ofInt_nat, BitVec.toNat_and, BitVec.toNat_ofNat, BitVec.toNat_ofNat, Nat.mod_eq_of_lt (by omega), Nat.mod_eq_of_lt (by omega)]
  have : m &&& n ≤ m := Nat.and_le_left
  exact W_id (by omega) (by omega)
theorem xor64 {m n : Nat} (hm : m < 9223372036854775808) (hn : n < 9223372036854775808) : ibits .xor .i64 m n = ((m ^^^ n : Nat) : Int) := by
  show IntKind.i64.wrap (BitVec.ofInt 64 m ^^^ BitVec.ofInt 64 n).toNat = _
  rw [ofInt_nat, ofInt_nat, BitVec.toNat_xor, BitVec.toNat_ofNat, BitVec.toNat_ofNat, Nat.mod_eq_of_lt (by omega), Nat.mod_eq_of_lt (by omega)]
  have : m ^^^ n < 2 ^ 63 := Nat.xor_lt_two_pow (by omega) (by omega)
  exact W_id (by omega) (by omega)
/-- m without n -/
def bdiff (m n : Nat) : Nat := m ^^^ (m &&& n)
theorem bdiff_bit (m n i : Nat) : (bdiff m n).testBit i = (m.testBit i && !n.testBit i) := by
  unfold bdiff
  rw [Nat.testBit_xor, Nat.testBit_and]
  cases m.testBit i <;> cases n.testBit i <;> rfl
theorem bdiff_lt {m n : Nat} (hm : m < 9223372036854775808) : bdiff m n < 9223372036854775808 := by
  have : bdiff m n < 2 ^ 63 := Nat.xor_lt_two_pow (by omega) (Nat.lt_of_le_of_lt Nat.and_le_left (by omega))
  omega
theorem andNot64 {m n : Nat} (hm : m < 9223372036854775808) : ibits .andNot .i64 m n = ((bdiff m n : Nat) : Int) := by
  show IntKind.i64.wrap (BitVec.ofInt 64 m &&& ~~~BitVec.ofInt 64 n).toNat = _
  have e : (BitVec.ofInt 64 m &&& ~~~BitVec.ofInt 64 n).toNat = bdiff m n := by
    apply Nat.eq_of_testBit_eq
    intro i
    rw [bdiff_bit, ofInt_nat, ofInt_nat, BitVec.testBit_toNat, BitVec.getLsbD_and, BitVec.getLsbD_not, BitVec.getLsbD_ofNat, BitVec.getLsbD_ofNat]
    by_cases hi : i < 64
    · simp [hi]
    · have : m.testBit i = false := Nat.testBit_lt_two_pow (Nat.lt_of_lt_of_le hm (Nat.le_trans (by decide : 9223372036854775808 ≤ 2 ^ 64) (Nat.pow_le_pow_right (by omega) (by omega))))
      simp [hi, this]
  rw [e]
  have := bdiff_lt (n := n) hm
  exact W_id (by omega) (by omega)
theorem U_id {n : Nat} (h : n < 18446744073709551616) : IntKind.u64.wrap (n : Int) = n := by
  unfold IntKind.wrap
  simp [IntKind.signed, IntKind.bits]
  omega
theorem shl64 {k : Nat} (h : k < 63) : ishl .i64 1 (k : Int) = ((2 ^ k : Nat) : Int) := by
  unfold ishl
  have h2 : min (k : Int).toNat IntKind.i64.bits = k := by
    rw [Int.toNat_natCast]
    exact Nat.min_eq_left (by show k ≤ 64; omega)
  rw [h2, Int.one_mul]
  have h3 : (2 : Nat) ^ k ≤ 2 ^ 62 := Nat.pow_le_pow_right (by omega) (by omega)
  have h4 : ((2 : Int) ^ k) = ((2 ^ k : Nat) : Int) := by simp
  rw [h4]
  have h5 : (2 : Nat) ^ 62 = 4611686018427387904 := by decide
  generalize (2 : Nat) ^ k = q at *
  exact W_id (by omega) (by omega)
theorem shr64 {m k : Nat} (h : k < 64) : ishr .i64 (m : Int) (k : Int) = ((m >>> k : Nat) : Int) := by
  unfold ishr
  have h2 : min (k : Int).toNat IntKind.i64.bits = k := by
    rw [Int.toNat_natCast]
    exact Nat.min_eq_left (by show k ≤ 64; omega)
  rw [h2, Nat.shiftRight_eq_div_pow]
  have h4 : ((2 : Int) ^ k) = ((2 ^ k : Nat) : Int) := by simp
  rw [h4]
  exact (Int.ofNat_fdiv m (2 ^ k)).symm
theorem bit1 {m k : Nat} (h : k < 63) (hm : m < 9223372036854775808) : (ibits .and .i64 (ishr .i64 (m : Int) (k : Int)) 1 == 1) = m.testBit k := by
  have h1 : m >>> k < 9223372036854775808 := Nat.lt_of_le_of_lt (Nat.shiftRight_le m k) hm
  rw [shr64 (by omega), show (1 : Int) = ((1 : Nat) : Int) from rfl, and64 h1 (by omega), beq_nat, Nat.testBit]
  rw [Nat.and_comm (m >>> k) 1]
  have : 1 &&& (m >>> k) = (m >>> k) % 2 := by rw [Nat.and_comm, Nat.and_one_is_mod]
  rw [this]
  rcases Nat.mod_two_eq_zero_or_one (m >>> k) with h2 | h2 <;> rw [h2] <;> rfl
theorem shc_ok {β : Type} {b : Nat} {k : Option β} : shc (b : Int) k = k := by
  unfold shc
  rw [decide_eq_false (by omega)]
  rfl
end Go.GL

namespace Go.GL
open Go Go.RowKit

/-! ## 20. Masks: a set of numbers below n as a number -/
def msk : Nat → (Nat → Bool) → Nat
  | 0, _ => 0
  | n + 1, p => msk n p ||| (bif p n then 2 ^ n else 0)
theorem msk_bit {n : Nat} {p : Nat → Bool} (i : Nat) : (msk n p).testBit i = (decide (i < n) && p i) := by
  induction n with
  | zero => simp [msk]
  | succ n ih =>
    rw [msk, Nat.testBit_or, ih]
    cases hp : p n with
    | false =>
      simp only [cond_false, Nat.zero_testBit, Bool.or_false]
      by_cases h : i = n
      · subst h; simp [hp]
      · rw [show decide (i < n + 1) = decide (i < n) from by rw [decide_eq_decide]; omega]
    | true =>
      simp only [cond_true, Nat.testBit_two_pow]
      by_cases h : i = n
      · subst h; simp [hp]
      · rw [show decide (i < n + 1) = decide (i < n) from by rw [decide_eq_decide]; omega, decide_eq_false (show ¬ n = i by omega), Bool.or_false]
theorem msk_lt {n : Nat} {p : Nat → Bool} : msk n p < 2 ^ n := by
  induction n with
  | zero => exact Nat.one_pos
  | succ n ih =>
    rw [msk]
    refine Nat.or_lt_two_pow (Nat.lt_of_lt_of_le ih (Nat.pow_le_pow_right (by decide) (by omega))) ?_
    cases p n
    · exact Nat.two_pow_pos _
    · exact Nat.pow_lt_pow_right (by decide) (by omega)
theorem msk_congr {n : Nat} {p q : Nat → Bool} (h : ∀ i, i < n → p i = q i) : msk n p = msk n q := by
  induction n with
  | zero => rfl
  | succ n ih => rw [msk, msk, ih (fun i hi => h i (by omega)), h n (by omega)]
theorem eq_msk {n m : Nat} (h : ∀ i, n ≤ i → m.testBit i = false) : m = msk n m.testBit := by
  refine Nat.eq_of_testBit_eq fun i => ?_
  rw [msk_bit]
  by_cases hi : i < n
  · simp [hi]
  · rw [h i (by omega)]; simp [hi]
theorem msk_or {n : Nat} {p q : Nat → Bool} : msk n p ||| msk n q = msk n (fun i => p i || q i) := by
  refine Nat.eq_of_testBit_eq fun i => ?_
  rw [Nat.testBit_or, msk_bit, msk_bit, msk_bit]
  cases decide (i < n) <;> simp
theorem msk_and {n : Nat} {p q : Nat → Bool} : msk n p &&& msk n q = msk n (fun i => p i && q i) := by
  refine Nat.eq_of_testBit_eq fun i => ?_
  rw [Nat.testBit_and, msk_bit, msk_bit, msk_bit]
  cases decide (i < n) <;> simp
theorem msk_diff {n : Nat} {p q : Nat → Bool} : bdiff (msk n p) (msk n q) = msk n (fun i => p i && !q i) := by
  refine Nat.eq_of_testBit_eq fun i => ?_
  rw [bdiff_bit, msk_bit, msk_bit, msk_bit]
  cases decide (i < n) <;> simp
theorem msk_one {n k : Nat} (h : k < n) : 2 ^ k = msk n (fun i => i == k) := by
  refine Nat.eq_of_testBit_eq fun i => ?_
  rw [msk_bit, Nat.testBit_two_pow]
  by_cases hi : i = k
  · subst hi; simp [h]
  · rw [decide_eq_false (by omega), beq_eq_false_iff_ne.2 hi, Bool.and_false]
theorem msk_zero {n : Nat} : msk n (fun _ => false) = 0 := by
  refine Nat.eq_of_testBit_eq fun i => ?_
  rw [msk_bit]; simp
theorem msk_all {n : Nat} : msk n (fun _ => true) = 2 ^ n - 1 := by
  refine Nat.eq_of_testBit_eq fun i => ?_
  rw [msk_bit, Nat.testBit_two_pow_sub_one]; simp
theorem msk_inj {n : Nat} {p q : Nat → Bool} (h : msk n p = msk n q) : ∀ i, i < n → p i = q i := fun i hi => by
  have := congrArg (fun m => m.testBit i) h
  simpa [msk_bit, hi] using this
theorem msk_eq0 {n : Nat} {p : Nat → Bool} : (msk n p = 0) = (∀ i, i < n → p i = false) := by
  refine propext ⟨fun h => msk_inj (h.trans msk_zero.symm), fun h => (msk_congr h).trans msk_zero⟩
theorem msk_lt63 {n : Nat} {p : Nat → Bool} (h : n ≤ 62) : msk n p < 9223372036854775808 := Nat.lt_of_lt_of_le msk_lt (Nat.le_trans (Nat.pow_le_pow_right (by decide) h) (by decide))

theorem m_or {n : Nat} {p q : Nat → Bool} (h : n ≤ 62) : ibits .or .i64 (msk n p : Int) (msk n q : Int) = (msk n (fun i => p i || q i) : Int) := by
  rw [or64 (msk_lt63 h) (msk_lt63 h), msk_or]
theorem m_and {n : Nat} {p q : Nat → Bool} (h : n ≤ 62) : ibits .and .i64 (msk n p : Int) (msk n q : Int) = (msk n (fun i => p i && q i) : Int) := by
  rw [and64 (msk_lt63 h) (msk_lt63 h), msk_and]
theorem m_diff {n : Nat} {p q : Nat → Bool} (h : n ≤ 62) : ibits .andNot .i64 (msk n p : Int) (msk n q : Int) = (msk n (fun i => p i && !q i) : Int) := by
  rw [andNot64 (msk_lt63 h), msk_diff]
theorem m_one {n k : Nat} (hn : n ≤ 62) (h : k < n) : ishl .i64 1 (k : Int) = (msk n (fun i => i == k) : Int) := by
  rw [shl64 (by omega), msk_one h]
theorem m_bit {n k : Nat} {p : Nat → Bool} (hn : n ≤ 62) (h : k < n) : (ibits .and .i64 (ishr .i64 (msk n p : Int) (k : Int)) 1 == 1) = p k := by
  rw [bit1 (by omega) (msk_lt63 hn), msk_bit]; simp [h]
theorem m_zero (n : Nat) : (0 : Int) = (msk n (fun _ => false) : Int) := by rw [msk_zero]; rfl
theorem m_eq0 {n : Nat} {p : Nat → Bool} : ((msk n p : Int) == 0) = decide (∀ i, i < n → p i = false) := by
  rw [Bool.eq_iff_iff, beq_iff_eq, decide_eq_true_eq, ← msk_eq0]; omega
theorem m_shr {n k : Nat} {p : Nat → Bool} (hn : n ≤ 62) (h : k ≤ n) : decide (ishr .i64 (msk n p : Int) (k : Int) > 0) = decide (∃ i, i < n ∧ k ≤ i ∧ p i = true) := by
  rw [shr64 (by omega), decide_eq_decide]
  constructor
  · intro h1
    have h2 : msk n p >>> k ≠ 0 := by omega
    obtain ⟨i, hi⟩ := Nat.exists_testBit_of_ne_zero h2
    rw [Nat.testBit_shiftRight, msk_bit] at hi
    simp only [Bool.and_eq_true, decide_eq_true_eq] at hi
    exact ⟨k + i, hi.1, by omega, hi.2⟩
  · rintro ⟨i, hi, hk, hp⟩
    have h2 : msk n p >>> k ≠ 0 := by
      intro e
      have := congrArg (fun m => m.testBit (i - k)) e
      simp only [Nat.testBit_shiftRight, msk_bit, Nat.zero_testBit] at this
      rw [show k + (i - k) = i by omega, hp] at this
      simp [hi] at this
    show (0 : Int) < _
    exact Int.natCast_pos.2 (Nat.pos_of_ne_zero h2)
end Go.GL

namespace Go.GL
open Go Go.RowKit

/-! ## 21. Marks: what is written into a value is found there again -/
def MB : Int := 4611686018427387904
def MH {α : Type} (M : α → Int → Option (α × Int)) (H : α → Int → Option Int) (w : Nat) (x : α) : Prop :=
  ∀ k : Int, 0 ≤ k → k + w ≤ MB → ∃ y, M x k = some (y, k + w) ∧ H y k = some (k + w)
theorem mh_loop {α : Type} {FM : Nat → List α → Int → Int → Option (List α × Int)} {FH : List α → Nat → Int → Int → Option Int} {w : α → Nat} {Q : α → Prop} {n : Nat}
    (h0 : ∀ f l k, l.length = n → FM (f + 1) l k (n : Int) = some (l, k))
    (g0 : ∀ f l k, l.length = n → FH l (f + 1) k (n : Int) = some k)
    (hs : ∀ i f (l : List α) (k : Int) (hi : i < l.length), l.length = n → Q l[i] → 0 ≤ k → k + w l[i] ≤ MB → ∃ y, FM (f + 1) l k (i : Int) = FM f (l.set i y) (k + w l[i]) ((i + 1 : Nat) : Int) ∧
      ∀ f' (l' : List α) (hi' : i < l'.length), l'.length = n → l'[i] = y → FH l' (f' + 1) k (i : Int) = FH l' f' (k + w l[i]) ((i + 1 : Nat) : Int)) :
    ∀ l : List α, l.length = n → (∀ e ∈ l, Q e) → MH (fun l k => FM (l.length + 1) l k 0) (fun l k => FH l (l.length + 1) k 0) (l.map w).sum l := by
  have key : ∀ k i f, i + k = n → k < f → ∀ (l : List α) (m : Int), l.length = n → (∀ j (hj : j < l.length), i ≤ j → Q l[j]) → 0 ≤ m → m + ((l.drop i).map w).sum ≤ MB →
      ∃ l', FM f l m (i : Int) = some (l', m + ((l.drop i).map w).sum) ∧ l'.length = n ∧ l'.take i = l.take i ∧ ∀ f', k < f' → FH l' f' m (i : Int) = some (m + ((l.drop i).map w).sum) := by
    intro k
    induction k with
    | zero =>
      intro i f h hf l m hl _ h1 h2
      obtain ⟨f, rfl⟩ : ∃ m, f = m + 1 := ⟨f - 1, by omega⟩
      obtain rfl : i = n := by omega
      rw [List.drop_of_length_le (by omega)]
      refine ⟨l, by rw [h0 _ _ _ hl]; simp, hl, rfl, fun f' hf' => ?_⟩
      obtain ⟨f', rfl⟩ : ∃ m, f' = m + 1 := ⟨f' - 1, by omega⟩
      rw [g0 _ _ _ hl]; simp
    | succ k ih =>
      intro i f h hf l m hl hQ h1 h2
      obtain ⟨f, rfl⟩ : ∃ m, f = m + 1 := ⟨f - 1, by omega⟩
      have hi : i < l.length := by omega
      rw [List.drop_eq_getElem_cons hi, List.map_cons, List.sum_cons] at h2 ⊢
      obtain ⟨y, e1, e2⟩ := hs i f l m hi hl (hQ i hi (Nat.le_refl _)) h1 (by omega)
      have hd : (l.set i y).drop (i + 1) = l.drop (i + 1) := List.drop_set_of_lt (by omega)
      obtain ⟨l', a1, a2, a3, a4⟩ := ih (i + 1) f (by omega) (by omega) (l.set i y) (m + w l[i]) (by simpa using hl)
        (fun j hj hij => by rw [List.getElem_set_ne (by omega)]; exact hQ j (by simpa using hj) (by omega)) (by omega) (by rw [hd]; omega)
      rw [hd] at a1 a4
      have hy : l'[i]'(by omega) = y := by
        have := congrArg (fun z => z[i]?) a3
        simp only [List.getElem?_take] at this
        rw [if_pos (by omega), if_pos (by omega), List.getElem?_eq_getElem (by omega), List.getElem?_set_self hi] at this
        exact Option.some.inj this
      refine ⟨l', by rw [e1, a1]; congr 2; omega, a2, ?_, fun f' hf' => ?_⟩
      · have := congrArg (List.take i) a3
        rw [List.take_take, List.take_take, Nat.min_eq_left (by omega)] at this
        rw [this, List.take_set_of_le (Nat.le_refl _)]
      · obtain ⟨f', rfl⟩ : ∃ m, f' = m + 1 := ⟨f' - 1, by omega⟩
        rw [e2 f' l' (by omega) a2 hy, a4 f' (by omega)]; congr 1; omega
  intro l hl hQ k h1 h2
  obtain ⟨l', a1, a2, -, a4⟩ := key n 0 (n + 1) (by omega) (by omega) l k hl (fun j hj _ => hQ _ (List.getElem_mem _)) h1 (by simpa using h2)
  rw [List.drop_zero] at a1 a4
  exact ⟨l', by show FM (l.length + 1) l k 0 = _; rw [hl]; exact a1, by show FH l' (l'.length + 1) k 0 = _; rw [a2]; exact a4 (n + 1) (by omega)⟩
theorem sum_le {α : Type} {f g : α → Nat} (h : ∀ e, f e ≤ g e) {l : List α} : (l.map f).sum ≤ (l.map g).sum := by
  induction l with
  | nil => simp
  | cons a r ih => rw [List.map_cons, List.map_cons, List.sum_cons, List.sum_cons]; exact Nat.add_le_add (h a) ih
theorem MB_id {k : Int} (h0 : 0 ≤ k) (h : k ≤ MB) : IntKind.i64.wrap k = k := by unfold MB at h; exact W_id (by omega) (by omega)
theorem wsum_const {α : Type} (l : List α) (c : Nat) : (l.map (fun _ => c)).sum = l.length * c := by
  induction l with
  | nil => simp
  | cons a r ih => rw [List.map_cons, List.sum_cons, ih, List.length_cons, Nat.add_mul]; omega
/-- a list of values that are marked by a function of their own -/
theorem mh_list {α : Type} {FM : Nat → List α → Int → Int → Option (List α × Int)} {FH : List α → Nat → Int → Int → Option Int} {ME : α → Int → Option (α × Int)} {HE : α → Int → Option Int} {w : α → Nat}
    (hM : ∀ f l k i, FM (f + 1) l k i = bif decide (i < (l.length : Int)) then idx l i (fun e => (ME e k).bind fun y => FM f (l.set i.toNat y.1) y.2 (IntKind.i64.wrap (i + 1))) else some (l, k))
    (hH : ∀ l f k i, FH l (f + 1) k i = bif decide (i < (l.length : Int)) then idx l i (fun e => (HE e k).bind fun z => bif decide (z < 0) then some (-1) else FH l f z (IntKind.i64.wrap (i + 1))) else some k)
    (l : List α) (hl : l.length ≤ maxLen) (hE : ∀ e ∈ l, MH ME HE (w e) e) : MH (fun l k => FM (l.length + 1) l k 0) (fun l k => FH l (l.length + 1) k 0) (l.map w).sum l := by
  refine mh_loop (Q := fun e => MH ME HE (w e) e) (n := l.length) (fun f x k hx => ?_) (fun f x k hx => ?_) (fun i f x k hi hx hQ h1 h2 => ?_) l rfl hE
  · rw [hM, hx, dlt_f (by omega)]; rfl
  · rw [hH, hx, dlt_f (by omega)]; rfl
  · obtain ⟨y, e1, e2⟩ := hQ k h1 h2
    refine ⟨y, ?_, fun f' x' hi' hx' hy => ?_⟩
    · rw [hM, dlt_t hi, cond_true, idx_nat hi, e1, Option.bind_some, W_succ hi (by omega)]; rfl
    · rw [hH, dlt_t hi', cond_true, idx_nat hi', hy, e2, Option.bind_some, decide_eq_false (by omega), cond_false, W_succ hi' (by omega)]
theorem mh_ints {FM : Nat → List Int → Int → Int → Option (List Int × Int)} {FH : List Int → Nat → Int → Int → Option Int}
    (hM : ∀ f l k i, FM (f + 1) l k i = bif decide (i < (l.length : Int)) then idx l i (fun _ => FM f (l.set i.toNat k) (IntKind.i64.wrap (k + 1)) (IntKind.i64.wrap (i + 1))) else some (l, k))
    (hH : ∀ l f k i, FH l (f + 1) k i = bif decide (i < (l.length : Int)) then idx l i (fun e => bif e != k then some (-1) else FH l f (IntKind.i64.wrap (k + 1)) (IntKind.i64.wrap (i + 1))) else some k)
    (l : List Int) (hl : l.length ≤ maxLen) : MH (fun l k => FM (l.length + 1) l k 0) (fun l k => FH l (l.length + 1) k 0) l.length l := by
  have h := mh_loop (FM := FM) (FH := FH) (w := fun _ => 1) (Q := fun _ => True) (n := l.length) (fun f x k hx => by rw [hM, hx, dlt_f (by omega)]; rfl) (fun f x k hx => by rw [hH, hx, dlt_f (by omega)]; rfl) (fun i f x k hi hx _ h1 h2 => by
    refine ⟨k, ?_, fun f' x' hi' hx' hy => ?_⟩
    · rw [hM, dlt_t hi, cond_true, idx_nat hi, W_succ hi (by omega), MB_id (k := k + 1) (by omega) h2]; rfl
    · rw [hH, dlt_t hi', cond_true, idx_nat hi', hy, bne_f rfl, cond_false, W_succ hi' (by omega), MB_id (k := k + 1) (by omega) h2]; rfl) l rfl (fun _ _ => trivial)
  rw [wsum_const, Nat.mul_one] at h
  exact h
def MK {α : Type} (M : α → Int → Option (α × Int)) (w : Nat) (x : α) : Prop := ∀ k : Int, 0 ≤ k → k + w ≤ MB → ∃ y, M x k = some (y, k + w)
theorem MH.mk {α : Type} {M : α → Int → Option (α × Int)} {H : α → Int → Option Int} {w : Nat} {x : α} (h : MH M H w x) : MK M w x := fun k h0 hk => let ⟨y, e, _⟩ := h k h0 hk; ⟨y, e⟩
theorem mk_list {α : Type} {FM : Nat → List α → Int → Int → Option (List α × Int)} {ME : α → Int → Option (α × Int)} {w : α → Nat}
    (hM : ∀ f l k i, FM (f + 1) l k i = bif decide (i < (l.length : Int)) then idx l i (fun e => (ME e k).bind fun y => FM f (l.set i.toNat y.1) y.2 (IntKind.i64.wrap (i + 1))) else some (l, k))
    (l : List α) (hl : l.length ≤ maxLen) (hE : ∀ e ∈ l, MK ME (w e) e) : MK (fun l k => FM (l.length + 1) l k 0) (l.map w).sum l := by
  have key : ∀ k i f, i + k = l.length → k < f → ∀ (x : List α) (m : Int), x.length = l.length → (∀ j (hj : j < x.length), i ≤ j → MK ME (w x[j]) x[j]) → 0 ≤ m → m + ((x.drop i).map w).sum ≤ MB →
      ∃ y, FM f x m (i : Int) = some (y, m + ((x.drop i).map w).sum) := by
    intro k
    induction k with
    | zero =>
      intro i f h hf x m hx _ h1 h2
      obtain ⟨f, rfl⟩ : ∃ m, f = m + 1 := ⟨f - 1, by omega⟩
      obtain rfl : i = l.length := by omega
      rw [hM, dlt_f (by omega), List.drop_of_length_le (by omega)]
      exact ⟨x, by simp⟩
    | succ k ih =>
      intro i f h hf x m hx hQ h1 h2
      obtain ⟨f, rfl⟩ : ∃ m, f = m + 1 := ⟨f - 1, by omega⟩
      have hi : i < x.length := by omega
      rw [List.drop_eq_getElem_cons hi, List.map_cons, List.sum_cons] at h2 ⊢
      obtain ⟨y, e1⟩ := hQ i hi (Nat.le_refl _) m h1 (by omega)
      have hd : (x.set i y).drop (i + 1) = x.drop (i + 1) := List.drop_set_of_lt (by omega)
      obtain ⟨z, a1⟩ := ih (i + 1) f (by omega) (by omega) (x.set i y) (m + w x[i]) (by simpa using hx)
        (fun j hj hij => by rw [List.getElem_set_ne (by omega)]; exact hQ j (by simpa using hj) (by omega)) (by omega) (by rw [hd]; omega)
      rw [hd] at a1
      refine ⟨z, ?_⟩
      rw [hM, dlt_t hi, cond_true, idx_nat hi, e1, Option.bind_some, W_succ hi (by omega)]
      show FM f (x.set i y) (m + w x[i]) _ = _
      rw [a1]; congr 2; omega
  intro k h1 h2
  obtain ⟨y, e⟩ := key l.length 0 (l.length + 1) (by omega) (by omega) l k rfl (fun j hj _ => hE _ (List.getElem_mem hj)) h1 (by simpa using h2)
  exact ⟨y, by rw [List.drop_zero] at e; exact e⟩
theorem mk_ints {FM : Nat → List Int → Int → Int → Option (List Int × Int)}
    (hM : ∀ f l k i, FM (f + 1) l k i = bif decide (i < (l.length : Int)) then idx l i (fun _ => FM f (l.set i.toNat k) (IntKind.i64.wrap (k + 1)) (IntKind.i64.wrap (i + 1))) else some (l, k))
    (l : List Int) (hl : l.length ≤ maxLen) : MK (fun l k => FM (l.length + 1) l k 0) l.length l :=
  (mh_ints (FH := fun l f => Nat.rec (fun _ _ => none) (fun _ ih k i => bif decide (i < (l.length : Int)) then idx l i (fun e => bif e != k then some (-1) else ih (IntKind.i64.wrap (k + 1)) (IntKind.i64.wrap (i + 1))) else some k) f) hM (fun _ _ _ _ => rfl) l hl).mk
/-- one part behind another -/
theorem mh_then {α β : Type} {M1 : α → Int → Option (α × Int)} {H1 : α → Int → Option Int} {M2 : β → Int → Option (β × Int)} {H2 : β → Int → Option Int} {w1 w2 : Nat} {a : α} {b : β}
    (h1 : MH M1 H1 w1 a) (h2 : MH M2 H2 w2 b) (k : Int) (h0 : 0 ≤ k) (hk : k + (w1 + w2 : Nat) ≤ MB) :
    ∃ a' b', M1 a k = some (a', k + w1) ∧ M2 b (k + w1) = some (b', k + (w1 + w2 : Nat)) ∧ H1 a' k = some (k + w1) ∧ H2 b' (k + w1) = some (k + (w1 + w2 : Nat)) ∧ decide (k + (w1 : Int) < 0) = false ∧ decide (k + ((w1 + w2 : Nat) : Int) < 0) = false := by
  obtain ⟨a', e1, e2⟩ := h1 k h0 (by omega)
  obtain ⟨b', e3, e4⟩ := h2 (k + w1) (by omega) (by omega)
  refine ⟨a', b', e1, ?_, e2, ?_, decide_eq_false (by omega), decide_eq_false (by omega)⟩
  · rw [e3]; congr 2; omega
  · rw [e4]; congr 1; omega
end Go.GL

namespace Go.GL
open Go Go.RowKit

/-! ## 22. Tables: lists by their places -/
def tab {α : Type} (c : Nat) (g : Nat → α) : List α := (List.range c).map g
theorem tab_len {α : Type} {c : Nat} {g : Nat → α} : (tab c g).length = c := by simp [tab]
theorem tab_get {α : Type} {c : Nat} {g : Nat → α} {i : Nat} (h : i < (tab c g).length) : (tab c g)[i] = g i := by simp [tab]
theorem idx_tab {α β : Type} {c : Nat} {g : Nat → α} {i : Nat} {k : α → Option β} (h : i < c) : idx (tab c g) (i : Int) k = k (g i) := by
  rw [idx_nat (by rw [tab_len]; exact h), tab_get]
theorem tab_congr {α : Type} {c : Nat} {g h : Nat → α} (e : ∀ i, i < c → g i = h i) : tab c g = tab c h := by
  unfold tab
  exact List.map_congr_left fun i hi => e i (List.mem_range.1 hi)
theorem set_tab {α : Type} {c : Nat} {g : Nat → α} {a : Nat} {v : α} : (tab c g).set a v = tab c (fun i => if i = a then v else g i) := by
  refine List.ext_getElem (by rw [List.length_set, tab_len, tab_len]) fun i h1 h2 => ?_
  rw [tab_get, List.getElem_set, tab_get]
  by_cases h : i = a
  · subst h; simp
  · rw [if_neg (fun e => h e.symm), if_neg h]
theorem rep_tab {α : Type} {c : Nat} {z : α} : List.replicate c z = tab c (fun _ => z) := by
  refine List.ext_getElem (by rw [List.length_replicate, tab_len]) fun i h1 h2 => ?_
  rw [tab_get, List.getElem_replicate]
theorem eq_tab {α : Type} [Inhabited α] (l : List α) : l = tab l.length (fun i => l[i]!) := by
  refine List.ext_getElem (by rw [tab_len]) fun i h1 h2 => ?_
  rw [tab_get, getElem!_pos l i h1]
theorem tab_inj {α : Type} {c : Nat} {g h : Nat → α} (e : tab c g = tab c h) : ∀ i, i < c → g i = h i := fun i hi => by
  have := congrArg (fun l => l[i]?) e
  simp only [tab, List.getElem?_map, List.getElem?_range hi, Option.map_some, Option.some.injEq] at this
  exact this
/-- the numbers below n for which p holds -/
def lst (n : Nat) (p : Nat → Bool) : List Int := ((List.range n).filter p).map Int.ofNat
theorem lst_succ {n : Nat} {p : Nat → Bool} : lst (n + 1) p = if p n then lst n p ++ [(n : Int)] else lst n p := by
  unfold lst
  rw [List.range_succ, List.filter_append, List.map_append]
  by_cases h : p n = true
  · rw [if_pos h]; simp [h]
  · rw [if_neg h]; simp [h]
theorem lst_len {n : Nat} {p : Nat → Bool} : (lst n p).length ≤ n := by
  unfold lst
  rw [List.length_map]
  exact Nat.le_trans (List.length_filter_le _ _) (by simp)
theorem lst_more {n m : Nat} {p : Nat → Bool} (h : n ≤ m) (hp : ∀ i, i < m → n ≤ i → p i = false) : lst m p = lst n p := by
  induction m with
  | zero => obtain rfl : n = 0 := by omega
            rfl
  | succ m ih =>
    by_cases e : n = m + 1
    · rw [e]
    · rw [lst_succ, if_neg (by rw [hp m (by omega) (by omega)]; decide), ih (by omega) (fun i hi hn => hp i (by omega) hn)]
theorem lst_congr {n : Nat} {p q : Nat → Bool} (h : ∀ i, i < n → p i = q i) : lst n p = lst n q := by
  unfold lst
  rw [List.filter_congr (fun i hi => h i (List.mem_range.1 hi))]
theorem mem_lst {n : Nat} {p : Nat → Bool} {x : Int} : x ∈ lst n p ↔ ∃ i : Nat, i < n ∧ p i = true ∧ x = i := by
  unfold lst
  simp only [List.mem_map, List.mem_filter, List.mem_range]
  exact ⟨fun ⟨i, ⟨h1, h2⟩, e⟩ => ⟨i, h1, h2, e.symm⟩, fun ⟨i, h1, h2, e⟩ => ⟨i, ⟨h1, h2⟩, e.symm⟩⟩
theorem app_ok {α β : Type} {l m : List α} {k : List α → Option β} (h : l.length + m.length ≤ 1099511627776) : app l m k = k (l ++ m) := grd_eq (decide_eq_true h)
theorem mk_ok {α β : Type} {z : α} {n : Nat} {k : List α → Option β} (h : n ≤ 1099511627776) : mk z (n : Int) k = k (tab n fun _ => z) := by
  unfold mk
  rw [grd_eq (decide_eq_true (by omega)), grd_eq (decide_eq_true (by omega)), Int.toNat_natCast, rep_tab]
theorem shc_nat {β : Type} {b : Nat} {k : Option β} : shc (b : Int) k = k := shc_ok
theorem U_nat {n : Nat} (h : n < 18446744073709551616) : IntKind.u64.wrap (n : Int) = n := U_id h
theorem m_none {n : Nat} {p : Nat → Bool} : ((msk n p : Int) == 0) = !(List.range n).any p := by
  rw [m_eq0, Bool.eq_iff_iff]
  simp
end Go.GL

namespace Go.GL
open Go Go.RowKit

/-! ## 23. Loops -/
theorem all_loopG {β : Type} {n : Nat} {F : Nat → Int → Option β} (c : Nat → Bool) {good bad : Option β} (he : ∀ f, F (f + 1) (n : Int) = good)
    (hs : ∀ i f, i < n → F (f + 1) (i : Int) = bif c i then F f ((i + 1 : Nat) : Int) else bad) {m : Nat} (hm : n < m) : F m 0 = bif (List.range n).all c then good else bad := by
  have key : ∀ k i f, i + k = n → k < f → F f (i : Int) = bif ((List.range n).drop i).all c then good else bad := by
    refine up (P := fun i f => F f (i : Int) = bif ((List.range n).drop i).all c then good else bad) (fun f => ?_) (fun i f hi ih => ?_)
    · rw [he, List.drop_of_length_le (by simp)]; rfl
    · rw [hs i f hi, List.drop_eq_getElem_cons (by simpa using hi), List.all_cons, List.getElem_range]
      cases c i with
      | false => rfl
      | true => rw [cond_true, ih, Bool.true_and]
  exact key n 0 m (by omega) hm
theorem app_loop {β τ : Type} {n b : Nat} {F : Nat → List β → Int → Option τ} (g : Nat → List β) (fin : List β → Option τ) (K : Nat) (hb : ∀ i, i < n → (g i).length ≤ b)
    (he : ∀ f acc, F (f + 1) acc (n : Int) = fin acc)
    (hs : ∀ f acc i, i < n → acc.length ≤ K + i * b → F (f + 1) acc (i : Int) = F f (acc ++ g i) ((i + 1 : Nat) : Int)) {m : Nat} {acc : List β} (hm : n < m) (hK : acc.length ≤ K) :
    F m acc 0 = fin (acc ++ (List.range n).flatMap g) := by
  have key : ∀ k i f, i + k = n → k < f → ∀ acc, acc.length ≤ K + i * b → F f acc (i : Int) = fin (acc ++ ((List.range n).drop i).flatMap g) := by
    refine up (P := fun i f => ∀ acc, acc.length ≤ K + i * b → F f acc (i : Int) = fin (acc ++ ((List.range n).drop i).flatMap g)) (fun f acc _ => ?_) (fun i f hi ih acc ha => ?_)
    · rw [he, List.drop_of_length_le (by simp)]; simp
    · rw [hs f acc i hi ha, List.drop_eq_getElem_cons (by simpa using hi), List.flatMap_cons, List.getElem_range, ih _ (by rw [List.length_append, Nat.add_mul]; have := hb i hi; omega), List.append_assoc]
  exact key n 0 m (by omega) hm acc (by omega)
/-- a loop over states that are told by the place -/
theorem st_loop {σ τ : Type} {n : Nat} {F : Nat → σ → Int → Option τ} (s : Nat → σ) {r : Option τ} (he : ∀ f, F (f + 1) (s n) (n : Int) = r)
    (hs : ∀ i f, i < n → F (f + 1) (s i) (i : Int) = F f (s (i + 1)) ((i + 1 : Nat) : Int)) {m : Nat} (hm : n < m) : F m (s 0) 0 = r :=
  up (n := n) (P := fun i f => F f (s i) (i : Int) = r) he (fun i f hi ih => (hs i f hi).trans ih) n 0 m (by omega) hm
/-- the first place at which p holds, -1 for none -/
def fidx {α : Type} (p : α → Bool) (l : List α) : Int := match l.findIdx? p with | some i => (i : Int) | none => -1
theorem fidx_some {α : Type} {p : α → Bool} {l : List α} {i : Nat} (h : l.findIdx? p = some i) : fidx p l = (i : Int) := by unfold fidx; rw [h]
theorem fidx_none {α : Type} {p : α → Bool} {l : List α} (h : l.findIdx? p = none) : fidx p l = -1 := by unfold fidx; rw [h]
theorem fidx_lb {α : Type} {p : α → Bool} {l : List α} : fidx p l = -1 ∨ 0 ≤ fidx p l := by
  cases hf : l.findIdx? p with
  | none => exact .inl (fidx_none hf)
  | some i => rw [fidx_some hf]; exact .inr (by omega)
theorem fidx_cons {α : Type} {p : α → Bool} {a : α} {l : List α} : fidx p (a :: l) = if p a then 0 else if fidx p l = -1 then -1 else fidx p l + 1 := by
  by_cases h : p a = true
  · rw [if_pos h, fidx_some (i := 0) (by rw [List.findIdx?_cons, if_pos h])]; rfl
  · rw [if_neg h]
    cases hf : l.findIdx? p with
    | none => rw [fidx_none (l := a :: l) (by rw [List.findIdx?_cons, if_neg h, hf]; rfl), fidx_none hf]; rfl
    | some i => rw [fidx_some (l := a :: l) (i := i + 1) (by rw [List.findIdx?_cons, if_neg h, hf]; rfl), fidx_some hf, if_neg (by omega)]; omega
theorem fidx_ge {α : Type} {p : α → Bool} {l : List α} : decide (fidx p l ≥ 0) = l.any p := by
  cases hf : l.findIdx? p with
  | none =>
    rw [fidx_none hf]
    rw [List.findIdx?_eq_none_iff] at hf
    symm
    rw [show decide ((-1 : Int) ≥ 0) = false from rfl, Bool.eq_false_iff]
    intro h
    obtain ⟨x, hx, hp⟩ := List.any_eq_true.1 h
    rw [hf x hx] at hp
    cases hp
  | some i =>
    rw [fidx_some hf, decide_eq_true (by omega)]
    obtain ⟨h, hp, -⟩ := List.findIdx?_eq_some_iff_getElem.1 hf
    exact (List.any_eq_true.2 ⟨_, List.getElem_mem h, hp⟩).symm
theorem idxf_loop {α : Type} {l : List α} {F : Nat → Int → Option Int} {P : α → Option Bool} (p : α → Bool)
    (hF : ∀ f i, F (f + 1) i = bif decide (i < (l.length : Int)) then idx l i (fun x => (P x).bind fun b => bif b then some i else F f (IntKind.i64.wrap (i + 1))) else some (-1))
    (hl : l.length ≤ maxLen) (hP : ∀ x ∈ l, P x = some (p x)) : F (l.length + 1) 0 = some (fidx p l) := by
  have key : ∀ k i f, i + k = l.length → k < f → F f (i : Int) = some (if fidx p (l.drop i) = -1 then -1 else (i : Int) + fidx p (l.drop i)) := by
    refine up (P := fun i f => F f (i : Int) = some (if fidx p (l.drop i) = -1 then -1 else (i : Int) + fidx p (l.drop i))) (fun f => ?_) (fun i f hi ih => ?_)
    · rw [hF, dlt_f (by omega), List.drop_of_length_le (by omega)]; rfl
    · rw [hF, dlt_t hi, cond_true, idx_nat hi, hP _ (List.getElem_mem hi), Option.bind_some, W_succ hi hl, ih, List.drop_eq_getElem_cons hi, fidx_cons]
      cases p l[i] with
      | true => rw [cond_true, if_pos rfl, if_neg (by omega)]; simp
      | false =>
        rw [cond_false, if_neg (c := (false = true)) (by decide)]
        congr 1
        rcases fidx_lb (p := p) (l := l.drop (i + 1)) with h | h
        · rw [if_pos h, if_pos h]; rfl
        · have h2 : ¬ fidx p (l.drop (i + 1)) = -1 := by omega
          have h3 : ¬ fidx p (l.drop (i + 1)) + 1 = -1 := by omega
          rw [if_neg h2, if_neg h2, if_neg h3]; omega
  have := key l.length 0 (l.length + 1) (by omega) (by omega)
  rw [show F (l.length + 1) 0 = _ from this, List.drop_zero]
  congr 1
  split
  · next h => exact h.symm
  · omega
theorem lst_eq_map {n : Nat} {p : Nat → Bool} : lst n p = ((List.range n).filter p).map Int.ofNat := rfl
theorem lst_get {n : Nat} {p : Nat → Bool} {i : Nat} (h : i < (lst n p).length) : ∃ a : Nat, (lst n p)[i] = (a : Int) ∧ a < n ∧ p a = true := by
  obtain ⟨a, h1, h2, h3⟩ := mem_lst.1 (List.getElem_mem h)
  exact ⟨a, h3, h1, h2⟩
end Go.GL
