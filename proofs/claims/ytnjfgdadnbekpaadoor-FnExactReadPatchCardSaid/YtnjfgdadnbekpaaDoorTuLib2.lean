/- Step lemmas of my own for the walks: frames as lists, memory as separate parts, the operations one by one; no condition. -/
import Derived.Test.YtnjfgdadnbekpaaDoorTuLib
import Derived.Laws.StructEq
import Derived.JoinedOf
import Derived.WalkSpells
import Derived.Sort.OwnSortedInts
import Derived.ProofKit
import Derived.Lib.AppendZerosOnto
import Derived.Lib.Overlaps
import Derived.Laws.CopyRow
import Derived.Lib.SlicesCompact
import Derived.Sort.OwnSorted
import Derived.Shelf.SlSortCmp.KitK
import Derived.Shelf.SlSortCmp.Kit1
import Derived.Shelf.SlSortCmp.NoneTotal
import Derived.Lib.AppendIntMem
import Derived.WideLaws
import Derived.Shelf.Strconv.ErrVarParseInt
import Derived.Shelf.Strings.Search2
import Derived.Shelf.Strings.Count
namespace Go.GL
open Go Go.RowKit

/-! ## 24. A slice of its own as an element -/
section
variable {P : Program} {α : Type} [GT P α]
theorem od_slice {w : World} {v : Value} {l : List α} {f : List Nat} (h : (ownL P v l).holds w f) : odL P w v.cells.toList l f := by
  have h : odL P w [v] l f := h
  rw [cells_one (odL_one h v (List.mem_singleton.2 rfl))]
  exact h
end

/-! ## 25. Regions that draw their order: what comes last may wait by way of others -/
def depB (ops : Array Oper) (j i : Nat) : Bool := match ops[j]? with | some oj => oj.after.any (fun e => Region.binds .any e && e.on == i) | none => false
def chainB (ops : Array Oper) : List Nat → Bool
  | j :: k :: r => depB ops j k && chainB ops (k :: r)
  | _ => true
def waitsP (ops : Array Oper) (E : Nat → Bool) (ps : List (List Nat)) (i : Nat) : Bool :=
  (List.range ops.size).all fun j => !(E j) || ps.any fun p => (match p with | h :: _ :: _ => h == j | _ => false) && (match p.getLast? with | some z => z == i | none => false) && chainB ops p
def closedB (ops : Array Oper) (listed : Array Bool) : Bool :=
  (List.range ops.size).all fun k => !(listed.getD k false) || (match ops[k]? with | some ok => ok.after.all (fun e => !(Region.binds .any e) || listed.getD e.on false) | none => true)
theorem closedB_spec {ops : Array Oper} {listed : Array Bool} (h : closedB ops listed = true) {k i : Nat} (hk : listed.getD k false = true) (hd : depB ops k i = true) : listed.getD i false = true := by
  unfold depB at hd
  split at hd
  · next oj hoj =>
    obtain ⟨e, he, hb⟩ := Array.any_eq_true'.1 hd
    simp only [Bool.and_eq_true, beq_iff_eq] at hb
    unfold closedB at h
    rw [List.all_eq_true] at h
    have := h k (List.mem_range.2 (Array.getElem?_eq_some_iff.1 hoj).1)
    rw [hk, hoj] at this
    simp only [Bool.not_true, Bool.false_or] at this
    have := Array.all_eq_true'.1 this e he
    rw [hb.1, hb.2] at this
    simpa using this
  · cases hd
theorem chain_listed {ops : Array Oper} {listed : Array Bool} (hc : ∀ {k i : Nat}, listed.getD k false = true → depB ops k i = true → listed.getD i false = true) : ∀ {p : List Nat} {z : Nat}, chainB ops p = true → (∀ h ∈ p.head?, listed.getD h false = true) → p.getLast? = some z → listed.getD z false = true := by
  intro p
  induction p with
  | nil => intro z _ _ h; cases h
  | cons a r ih =>
    intro z h1 h2 h3
    cases r with
    | nil => simp at h3; subst h3; exact h2 a rfl
    | cons b r =>
      unfold chainB at h1
      rw [Bool.and_eq_true] at h1
      refine ih h1.2 (fun h hh => ?_) (by simpa using h3)
      simp at hh; subst hh
      exact hc (h2 a rfl) h1.1
theorem anyE_takeP {P : Program} {ops : Array Oper} {Q : Exit → Act → World → Prop} {S : World → Prop} {E : Nat → Bool} {i : Nat} {oi : Oper} {v : Value} {ps : List (List Nat)} (hi : ops[i]? = some oi) (hs : Region.noSelect ops = true) (hw : waitsP ops E ps i = true)
    (hQ : ∀ c a w, Q (.panic c) (a.put oi.dst v) w → Q (.panic c) a w) : ∀ (fuel : Nat) (listed : Array Bool) (a : Act) (w : World), closedB ops listed = true → Region.free .any ops listed i = true → (Region.ready .any ops listed).contains i = true →
      YieldsIf P ops S oi v a → S w → anyE P ops Q S E fuel (listed.setIfInBounds i true) (a.put oi.dst v) w → anyE P ops Q S E (fuel + 1) listed a w := by
  have hsel := Region.noSelect_spec hs
  have main : ∀ (fuel : Nat) (listed : Array Bool) (a : Act) (w : World), (∀ {k i : Nat}, listed.getD k false = true → depB ops k i = true → listed.getD i false = true) → (∀ j oj, ops[j]? = some oj → j ≠ i → listed.getD j true = false → (∀ e ∈ oj.after, Region.binds .any e = true → e.on ≠ i) → oi.apart ops oj = true) →
      i ∈ Region.ready .any ops listed → YieldsIf P ops S oi v a → S w → anyE P ops Q S E fuel (listed.setIfInBounds i true) (a.put oi.dst v) w → anyE P ops Q S E (fuel + 1) listed a w := by
    intro fuel
    induction fuel with
    | zero =>
      intro listed a w _ _ hr hy hS H
      constructor
      · intro h0; rw [h0] at hr; cases hr
      · intro j hj
        by_cases hji : j = i
        · subst hji; exact hy.wpOp hi hS ⟨fun _ => hS, H⟩
        · have h2 := ready_mono hj hji
          rw [H.1] at h2
          cases h2
    | succ fuel ih =>
      intro listed a w hcl hap hr hy hS H
      constructor
      · intro h0; rw [h0] at hr; cases hr
      · intro j hj
        by_cases hji : j = i
        · subst hji; exact hy.wpOp hi hS ⟨fun _ => hS, H⟩
        · have hstep := H.2 j (ready_mono hj hji)
          obtain ⟨hun, oj, hoj, hdone⟩ := mem_ready.1 hj
          have hiun := (mem_ready.1 hr).1
          have hlisted : listed.getD i false = true → False := by
            intro hl
            rcases Nat.lt_or_ge i listed.size with h' | h'
            · simp [h'] at hiun hl; rw [hiun] at hl; cases hl
            · simp [Array.getElem?_eq_none h'] at hl
          have hno : ∀ e ∈ oj.after, Region.binds .any e = true → e.on ≠ i := fun e he hb heq => hlisted (heq ▸ hdone e he hb)
          have hjd : ∀ k, depB ops j k = true → listed.getD k false = true := by
            intro k hd
            unfold depB at hd
            rw [hoj] at hd
            obtain ⟨e, he, hb⟩ := Array.any_eq_true'.1 hd
            simp only [Bool.and_eq_true, beq_iff_eq] at hb
            exact hb.2 ▸ hdone e he hb.1
          have hEj : E j = false := by
            cases hc : E j with
            | false => rfl
            | true =>
              exfalso
              unfold waitsP at hw
              rw [List.all_eq_true] at hw
              have := hw j (List.mem_range.2 (Array.getElem?_eq_some_iff.1 hoj).1)
              rw [hc, Bool.not_true, Bool.false_or] at this
              obtain ⟨p, _, hp⟩ := List.any_eq_true.1 this
              rw [Bool.and_eq_true, Bool.and_eq_true] at hp
              obtain ⟨⟨h1, h2⟩, h3⟩ := hp
              cases hz : p.getLast? with
              | none => rw [hz] at h2; cases h2
              | some z =>
                rw [hz] at h2
                have h2 : z = i := by simpa using h2
                subst h2
                match p, h1, h3, hz with
                | a :: b :: r, h1, h3, hz =>
                  have h1 : a = j := by simpa using h1
                  subst h1
                  unfold chainB at h3
                  rw [Bool.and_eq_true] at h3
                  refine hlisted (chain_listed hcl (p := b :: r) h3.2 (fun h hh => ?_) (by simpa using hz))
                  simp at hh; subst hh
                  exact hjd _ h3.1
          refine wpOp_mono ?_ (wpOp_putIf hoj (hap j oj hoj hji hun hno) (fun cs b => hsel i oi cs b hi) (fun cs b => hsel j oj cs b hoj) hQ hy hstep)
          rintro a' w' ⟨hy', hS', hrest⟩
          refine ⟨hS', ih (listed.setIfInBounds j true) a' w' ?_ ?_ (ready_mono hr (Ne.symm hji)) hy' (hS' hEj) ?_⟩
          · intro k m hk hd
            by_cases hkj : j = k
            · subst hkj
              have := hjd m hd
              by_cases hmj : j = m
              · subst hmj; exact hk
              · rwa [getD_set_ne false hmj]
            · rw [getD_set_ne false hkj] at hk
              have := hcl hk hd
              by_cases hmj : j = m
              · subst hmj
                exfalso
                rcases Nat.lt_or_ge j listed.size with h' | h'
                · simp [h'] at hun this; rw [hun] at this; cases this
                · simp [Array.getElem?_eq_none h'] at this
              · rwa [getD_set_ne false hmj]
          · intro k ok hk hki hkun hkno
            refine hap k ok hk hki ?_ hkno
            by_cases hjk : j = k
            · subst hjk; exact hun
            · rwa [getD_set_ne true hjk] at hkun
          · rw [Array.setIfInBounds_comm _ _ hji]; exact hrest
  intro fuel listed a w hcl hf hr hy hS H
  exact main fuel listed a w (closedB_spec hcl) (Region.free_spec hi hf) (by simpa using hr) hy hS H
section
variable {P : Program} {N : Nat} {Q : Exit → Act → World → Prop} {env : Env} {w : World} {ops : Array Oper} {S : World → Prop} {d : Nat} {fuel : Nat} {listed : Array Bool} {E : Nat → Bool}
theorem p_take {i : Nat} {o : Oper} {v : Value} (ps : List (List Nat)) (hcl : closedB ops listed = true) (hi : ops[i]? = some o) (hd : o.dst = some d) (hg : o.guard = none) (hN : Nat.blt d N = true) (hs : Region.noSelect ops = true) (hw : waitsP ops E ps i = true) (hf : Region.free .any ops listed i = true) (hr : (Region.ready .any ops listed).contains i = true)
    (hQ : ∀ c a w, Q (.panic c) (a.put o.dst v) w → Q (.panic c) a w) (hS : S w) (hx : ∀ w1, S w1 → X P N env w1 o v)
    (h : awp P N ops Q S E fuel (listed.setIfInBounds i true) ((d, v) :: env) w) : awp P N ops Q S E (fuel + 1) listed env w := fun a ha =>
  anyE_takeP hi hs hw hQ fuel listed a w hcl hf hr (.inl ⟨by simp [Region.wanted, hg], fun w1 h1 => hx w1 h1 a ha⟩) hS (by rw [hd]; exact h _ (ha.put hN))
theorem p_take_g {i g e : Nat} {b : Bool} {o : Oper} {v : Value} (ps : List (List Nat)) (hcl : closedB ops listed = true) (hi : ops[i]? = some o) (hd : o.dst = some d) (hg : o.guard = some (g, b)) (hgd : (ops[g]?).bind (·.dst) = some e) (hv : env.get e = some (.bool b)) (hN : Nat.blt d N = true) (hs : Region.noSelect ops = true) (hw : waitsP ops E ps i = true) (hf : Region.free .any ops listed i = true) (hr : (Region.ready .any ops listed).contains i = true)
    (hQ : ∀ c a w, Q (.panic c) (a.put o.dst v) w → Q (.panic c) a w) (hS : S w) (hx : ∀ w1, S w1 → X P N env w1 o v)
    (h : awp P N ops Q S E fuel (listed.setIfInBounds i true) ((d, v) :: env) w) : awp P N ops Q S E (fuel + 1) listed env w := fun a ha =>
  anyE_takeP hi hs hw hQ fuel listed a w hcl hf hr (.inl ⟨by simp [Region.wanted, hg, yielded_bool ha hgd hv], fun w1 h1 => hx w1 h1 a ha⟩) hS (by rw [hd]; exact h _ (ha.put hN))
theorem p_skip {i g e : Nat} {b c : Bool} {o : Oper} (ps : List (List Nat)) (hcl : closedB ops listed = true) (hi : ops[i]? = some o) (hd : o.dst = some d) (hg : o.guard = some (g, b)) (hgd : (ops[g]?).bind (·.dst) = some e) (hv : env.get e = some (.bool c)) (hbc : (c == b) = false) (hN : Nat.blt d N = true) (hs : Region.noSelect ops = true) (hw : waitsP ops E ps i = true) (hf : Region.free .any ops listed i = true) (hr : (Region.ready .any ops listed).contains i = true)
    (hQ : ∀ c a w, Q (.panic c) (a.put o.dst undef) w → Q (.panic c) a w) (hS : S w)
    (h : awp P N ops Q S E fuel (listed.setIfInBounds i true) ((d, undef) :: env) w) : awp P N ops Q S E (fuel + 1) listed env w := fun a ha =>
  anyE_takeP (v := undef) hi hs hw hQ fuel listed a w hcl hf hr (.inr ⟨by simp only [Region.wanted, hg, yielded_bool ha hgd hv]; cases b <;> cases c <;> simp_all, rfl⟩) hS (by rw [hd]; exact h _ (ha.put hN))
theorem p_skip_undef {i g e : Nat} {b : Bool} {o : Oper} (ps : List (List Nat)) (hcl : closedB ops listed = true) (hi : ops[i]? = some o) (hd : o.dst = some d) (hg : o.guard = some (g, b)) (hgd : (ops[g]?).bind (·.dst) = some e) (hv : env.get e = some undef) (hN : Nat.blt d N = true) (hs : Region.noSelect ops = true) (hw : waitsP ops E ps i = true) (hf : Region.free .any ops listed i = true) (hr : (Region.ready .any ops listed).contains i = true)
    (hQ : ∀ c a w, Q (.panic c) (a.put o.dst undef) w → Q (.panic c) a w) (hS : S w)
    (h : awp P N ops Q S E fuel (listed.setIfInBounds i true) ((d, undef) :: env) w) : awp P N ops Q S E (fuel + 1) listed env w := fun a ha =>
  anyE_takeP (v := undef) hi hs hw hQ fuel listed a w hcl hf hr (.inr ⟨by simp [Region.wanted, hg, yielded_undef ha hgd hv], rfl⟩) hS (by rw [hd]; exact h _ (ha.put hN))
end
/-! ## 26. A field of a struct's value; a new slice with the memory it is -/
/-- field f of struct type s lies at offset off, and is one cell -/
def fvB (P : Program) (s : TypeId) (f off : Nat) : Bool :=
  match P.underlying s with
  | some (.struct fs) => match fs[f]? with
    | some fd => fd.offset == off && tiB P fd.type 1 false
    | none => false
  | _ => false
section
variable {P : Program} {N : Nat} {Q : Exit → Act → World → Prop} {env : Env} {w w' w0 wq : World} {ops : Array Oper} {rest : List Oper}
  {d : Nat} {t ty : TypeId} {pos : String} {af : Array Edge} {L : List Nat} {As R : List HP} {gd : Option (Nat × Bool)}
theorem run_fieldv {s : TypeId} {f off : Nat} {cs : Array Value} {v : Value} (hs : fvB P s f off = true) (hv : cs[off]? = some v) : (Instr.field s (.agg cs) f).run P w = .ok v w := by
  unfold fvB at hs
  split at hs
  · rename_i fs hu
    split at hs
    · rename_i fd hf
      simp only [Bool.and_eq_true, beq_iff_eq] at hs
      obtain ⟨h1, h2⟩ := hs
      obtain ⟨i, u, hi, hsz, hu2, ha⟩ := tiB_spec h2
      simp [Instr.field, run_underlying hu, hf, asAgg, part, run_isAgg hu2, ha, h1, hv]
    · cases hs
  · cases hs
theorem r_fieldv {s : TypeId} {f off : Nat} {x : Operand} {cs : Array Value} {v : Value} (hs : fvB P s f off = true) (hN : Nat.blt d N = true) (hx : ev env x = some (.agg cs)) (hv : cs[off]? = some v)
    (h : rwp P N ops Q rest ((d, v) :: env) w) : rwp P N ops Q (⟨some d, .field s x f, ty, pos, af, none⟩ :: rest) env w :=
  r_val rfl rfl hN (fun a ha => by simp [execOp, ha.eval hx, run_fieldv hs hv]) h
theorem x_fieldv {s : TypeId} {f off : Nat} {x : Operand} {cs : Array Value} {v : Value} (hs : fvB P s f off = true) (hx : ev env x = some (.agg cs)) (hv : cs[off]? = some v) : X P N env w ⟨some d, .field s x f, ty, pos, af, gd⟩ v :=
  fun a ha => by simp [execOp, ha.eval hx, run_fieldv hs hv]
variable {α : Type} [GT P α]
theorem r_lit0n (ht : slB P t (GT.tid P α) = true) (hN : Nat.blt d N = true)
    (h : ∀ v w', St w [] w' [ownL P v ([] : List α)] → rwp P N ops Q rest ((d, v) :: env) w') :
    rwp P N ops Q (⟨some d, .buildSlice t 0 #[], ty, pos, af, none⟩ :: rest) env w :=
  r_lit0 ht hN (St.start w) (fun v w' _ H => h v w' H)
end
end Go.GL

namespace Go.GL
open Go Go.RowKit

/-! ## 27. Two structs of plain parts held against each other -/
def leafEq (P : Program) (t : TypeId) (u v : Value) (b : Bool) : Prop := ∀ d w, (Op.equalIn (d + 1) t u v).run P w = .ok b w
def FE (P : Program) (xs ys : Array Value) : List (Bool × Nat × TypeId) → List Bool → Prop
  | [], [] => True
  | (nb, off, t) :: L, b :: bs => nb = false ∧ tiB P t 1 false = true ∧ (∃ u v, xs[off]? = some u ∧ ys[off]? = some v ∧ leafEq P t u v b) ∧ FE P xs ys L bs
  | _, _ => False
section
variable {P : Program} {N : Nat} {Q : Exit → Act → World → Prop} {env : Env} {w : World} {ops : Array Oper} {rest : List Oper} {d : Nat} {ty : TypeId} {pos : String} {af : Array Edge} {gd : Option (Nat × Bool)}
theorem leaf_int {t : TypeId} {k k' : IntKind} {a b : Int} (h : P.underlying t = some (.int k')) : leafEq P t (.int k a) (.int k b) (a == b) := fun d w => run_equalIn_int w d t k k' a b h
theorem leaf_bool {t : TypeId} {a b : Bool} (h : P.underlying t = some .bool) : leafEq P t (.bool a) (.bool b) (a == b) := fun d w => run_equalIn_bool' w d t a b h
theorem leaf_string {t : TypeId} {a b : Bytes} (h : P.underlying t = some .string) : leafEq P t (.string (BS a)) (.string (BS b)) (a == b) := fun d w => by
  rw [run_equalIn_string w d t _ _ h, BS_toList, BS_toList]
theorem run_part1 {t : TypeId} {cs : Array Value} {off : Nat} {v : Value} (ht : tiB P t 1 false = true) (hv : cs[off]? = some v) : (part t cs off).run P w = .ok v w := by
  obtain ⟨i, u, hi, hsz, hu, ha⟩ := tiB_spec ht
  simp [part, run_isAgg hu, ha, hv]
theorem run_eqFields {d : Nat} {xs ys : Array Value} : ∀ (fs : List Field) (L : List (Bool × Nat × TypeId)) (bs : List Bool), fs.map (fun f => (f.name == "_", f.offset, f.type)) = L → FE P xs ys L bs →
    (Op.eqFields (d + 1) xs ys fs).run P w = .ok (bs.all fun b => b) w := by
  intro fs
  induction fs with
  | nil =>
    intro L bs hL h
    subst hL
    cases bs with
    | nil => simp [Op.eqFields]
    | cons b r => exact h.elim
  | cons f fs ih =>
    intro L bs hL h
    subst hL
    cases bs with
    | nil => exact h.elim
    | cons b bs =>
      obtain ⟨h1, h2, ⟨u, v, hu, hv, hl⟩, h3⟩ := h
      have hn : f.name ≠ "_" := by simpa using h1
      simp only [Op.eqFields]
      rw [if_pos hn]
      simp only [Sem.run_bind, run_part1 h2 hu, run_part1 h2 hv, Result.andThen_ok, hl d w]
      cases b with
      | false => simp
      | true =>
        simp only [Bool.not_true, Bool.false_eq_true, if_false, List.all_cons, Bool.true_and]
        exact ih _ bs rfl h3
def steqB (P : Program) (t : TypeId) : Bool := (match P.underlying t with | some (.struct _) => true | _ => false) && !P.stoodInHeld t && !P.eqGuardType P.depth t
theorem steq_spec {t : TypeId} (h : steqB P t = true) : P.underlying t = some (.struct (P.fieldsOf t)) ∧ P.stoodInHeld t = false ∧ P.eqGuardType P.depth t = false := by
  unfold steqB at h
  simp only [Bool.and_eq_true, Bool.not_eq_true'] at h
  obtain ⟨⟨h1, h2⟩, h3⟩ := h
  refine ⟨?_, h2, h3⟩
  unfold Program.fieldsOf
  split at h1
  · next fs hu => rw [hu]
  · cases h1
theorem run_steq {t : TypeId} {xs ys : Array Value} {L : List (Bool × Nat × TypeId)} {bs : List Bool} (ht : steqB P t = true) (hL : (P.fieldsOf t).toList.map (fun f => (f.name == "_", f.offset, f.type)) = L) (hF : FE P xs ys L bs) :
    (binOp .eql t (.agg xs) (.agg ys)).run P w = .ok (.bool (bs.all fun b => b)) w := by
  obtain ⟨h1, h2, -⟩ := steq_spec ht
  rw [run_eql_struct, show (10000 : Nat) = 9999 + 1 from rfl, run_equalIn_agg w 9999 t xs ys h1 h2, run_eqFields _ L bs hL hF]; rfl
theorem run_stne {t : TypeId} {xs ys : Array Value} {L : List (Bool × Nat × TypeId)} {bs : List Bool} (ht : steqB P t = true) (hL : (P.fieldsOf t).toList.map (fun f => (f.name == "_", f.offset, f.type)) = L) (hF : FE P xs ys L bs) :
    (binOp .neq t (.agg xs) (.agg ys)).run P w = .ok (.bool (!bs.all fun b => b)) w := by
  obtain ⟨h1, h2, -⟩ := steq_spec ht
  rw [run_neq_struct, show (10000 : Nat) = 9999 + 1 from rfl, run_equalIn_agg w 9999 t xs ys h1 h2, run_eqFields _ L bs hL hF]; rfl
theorem r_steq {x y : Operand} {xt yt : TypeId} {xs ys : Array Value} {L : List (Bool × Nat × TypeId)} {bs : List Bool} (ht : steqB P xt = true) (hL : (P.fieldsOf xt).toList.map (fun f => (f.name == "_", f.offset, f.type)) = L) (hF : FE P xs ys L bs)
    (hN : Nat.blt d N = true) (hx : ev env x = some (.agg xs)) (hy : ev env y = some (.agg ys)) (h : rwp P N ops Q rest ((d, .bool (bs.all fun b => b)) :: env) w) : rwp P N ops Q (⟨some d, .binOp .eql xt x y yt, ty, pos, af, none⟩ :: rest) env w :=
  r_bin hN hx hy (run_eqGuard_agg w _ _ _ _ _ _ (steq_spec ht).2.2) (run_steq ht hL hF) h
theorem r_stne {x y : Operand} {xt yt : TypeId} {xs ys : Array Value} {L : List (Bool × Nat × TypeId)} {bs : List Bool} (ht : steqB P xt = true) (hL : (P.fieldsOf xt).toList.map (fun f => (f.name == "_", f.offset, f.type)) = L) (hF : FE P xs ys L bs)
    (hN : Nat.blt d N = true) (hx : ev env x = some (.agg xs)) (hy : ev env y = some (.agg ys)) (h : rwp P N ops Q rest ((d, .bool (!bs.all fun b => b)) :: env) w) : rwp P N ops Q (⟨some d, .binOp .neq xt x y yt, ty, pos, af, none⟩ :: rest) env w :=
  r_bin hN hx hy (run_eqGuard_agg w _ _ _ _ _ _ (steq_spec ht).2.2) (run_stne ht hL hF) h
theorem x_steq {x y : Operand} {xt yt : TypeId} {xs ys : Array Value} {L : List (Bool × Nat × TypeId)} {bs : List Bool} (ht : steqB P xt = true) (hL : (P.fieldsOf xt).toList.map (fun f => (f.name == "_", f.offset, f.type)) = L) (hF : FE P xs ys L bs)
    (hx : ev env x = some (.agg xs)) (hy : ev env y = some (.agg ys)) : X P N env w ⟨some d, .binOp .eql xt x y yt, ty, pos, af, gd⟩ (.bool (bs.all fun b => b)) :=
  x_bin hx hy (run_eqGuard_agg w _ _ _ _ _ _ (steq_spec ht).2.2) (run_steq ht hL hF)
theorem x_stne {x y : Operand} {xt yt : TypeId} {xs ys : Array Value} {L : List (Bool × Nat × TypeId)} {bs : List Bool} (ht : steqB P xt = true) (hL : (P.fieldsOf xt).toList.map (fun f => (f.name == "_", f.offset, f.type)) = L) (hF : FE P xs ys L bs)
    (hx : ev env x = some (.agg xs)) (hy : ev env y = some (.agg ys)) : X P N env w ⟨some d, .binOp .neq xt x y yt, ty, pos, af, gd⟩ (.bool (!bs.all fun b => b)) :=
  x_bin hx hy (run_eqGuard_agg w _ _ _ _ _ _ (steq_spec ht).2.2) (run_stne ht hL hF)
end
theorem idx_set {α β : Type} {l : List α} {i : Nat} {v : α} {k : α → Option β} (h : i < l.length) : idx (l.set i v) (i : Int) k = k v := by
  rw [idx_nat (by simpa using h), List.getElem_set_self]
theorem mk_loop {α : Type} {FM : Nat → List α → Int → Int → Option (List α × Int)} {w : α → Nat} {Q : α → Prop} {n : Nat}
    (h0 : ∀ f l k, l.length = n → FM (f + 1) l k (n : Int) = some (l, k))
    (hs : ∀ i f (l : List α) (k : Int) (hi : i < l.length), l.length = n → Q l[i] → 0 ≤ k → k + w l[i] ≤ MB → ∃ y, FM (f + 1) l k (i : Int) = FM f (l.set i y) (k + w l[i]) ((i + 1 : Nat) : Int)) :
    ∀ l : List α, l.length = n → (∀ e ∈ l, Q e) → MK (fun l k => FM (l.length + 1) l k 0) (l.map w).sum l := by
  have key : ∀ k i f, i + k = n → k < f → ∀ (l : List α) (m : Int), l.length = n → (∀ j (hj : j < l.length), i ≤ j → Q l[j]) → 0 ≤ m → m + ((l.drop i).map w).sum ≤ MB →
      ∃ l', FM f l m (i : Int) = some (l', m + ((l.drop i).map w).sum) := by
    intro k
    induction k with
    | zero =>
      intro i f h hf l m hl _ h1 h2
      obtain ⟨f, rfl⟩ : ∃ m, f = m + 1 := ⟨f - 1, by omega⟩
      obtain rfl : i = n := by omega
      rw [List.drop_of_length_le (by omega)]
      exact ⟨l, by rw [h0 _ _ _ hl]; simp⟩
    | succ k ih =>
      intro i f h hf l m hl hQ h1 h2
      obtain ⟨f, rfl⟩ : ∃ m, f = m + 1 := ⟨f - 1, by omega⟩
      have hi : i < l.length := by omega
      rw [List.drop_eq_getElem_cons hi, List.map_cons, List.sum_cons] at h2 ⊢
      obtain ⟨y, e1⟩ := hs i f l m hi hl (hQ i hi (Nat.le_refl _)) h1 (by omega)
      have hd : (l.set i y).drop (i + 1) = l.drop (i + 1) := List.drop_set_of_lt (by omega)
      obtain ⟨l', a1⟩ := ih (i + 1) f (by omega) (by omega) (l.set i y) (m + w l[i]) (by simpa using hl)
        (fun j hj hij => by rw [List.getElem_set_ne (by omega)]; exact hQ j (by simpa using hj) (by omega)) (by omega) (by rw [hd]; omega)
      rw [hd] at a1
      exact ⟨l', by rw [e1, a1]; congr 2; omega⟩
  intro l hl hQ k h1 h2
  obtain ⟨l', a1⟩ := key n 0 (n + 1) (by omega) (by omega) l k hl (fun j hj _ => hQ _ (List.getElem_mem _)) h1 (by simpa using h2)
  rw [List.drop_zero] at a1
  exact ⟨l', by show FM (l.length + 1) l k 0 = _; rw [hl]; exact a1⟩
theorem cat_ok {β : Type} {a b : Bytes} {k : Bytes → Option β} (h : a.length + b.length ≤ 4611686018427387904) : cat a b k = k (a ++ b) := grd_eq (decide_eq_true h)
theorem text_loop {F : Nat → Int → Bytes → Option Bytes} {D : Int → Bytes} (hD : ∀ x, (D x).length = 1)
    (hF : ∀ f x s, F (f + 1) x s = bif decide (x > 0) then (cat (D x) s fun _ => F f (IntKind.i64.wrap (Int.tdiv x 10)) (D x ++ s)) else cat [109] s fun _ => some ([109] ++ s)) :
    ∀ (n f : Nat) (x : Int) (s : Bytes), 0 ≤ x → x < 2 ^ n → n < f → x ≤ MB → s.length + n ≤ 1000000 → ∃ t, F f x s = some t := by
  intro n
  induction n with
  | zero =>
    intro f x s h1 h2 h3 _ h4
    obtain ⟨f, rfl⟩ : ∃ m, f = m + 1 := ⟨f - 1, by omega⟩
    rw [hF, decide_eq_false (show ¬ x > 0 by simp at h2; omega), cond_false, cat_ok (by simp; omega)]
    exact ⟨_, rfl⟩
  | succ n ih =>
    intro f x s h1 h2 h3 h4 h5
    obtain ⟨f, rfl⟩ : ∃ m, f = m + 1 := ⟨f - 1, by omega⟩
    rw [hF]
    by_cases hx : x > 0
    · have e : Int.tdiv x 10 = x / 10 := Int.tdiv_eq_ediv_of_nonneg h1
      rw [decide_eq_true hx, cond_true, cat_ok (by rw [hD]; omega), e, MB_id (by omega) (by omega)]
      exact ih _ _ _ (by omega) (by rw [Int.pow_succ] at h2; omega) (by omega) (by omega) (by rw [List.length_append, hD]; omega)
    · rw [decide_eq_false hx, cond_false, cat_ok (by simp; omega)]
      exact ⟨_, rfl⟩
end Go.GL

namespace Go.GL
open Go Go.RowKit

/-! ## 28. The row's closed facts, one by one -/
theorem joined_of {P : Program} {f : FuncId} {fn : Func} {s : ChangeSpec} {c : OpenClaim}
    (k1 : c.wf (OpenSpec.ofChange s) = true) (k2 : laidOutB P = true) (k3 : mapsRowed P = true)
    (k4 : fn.params.all (P.readableRec ·) = true) (k5 : namedTie P c.named s.vars = true)
    (k6 : (c.stops == []) = true) (k7 : (P.stops == []) = true) (k8 : (c.knobs == []) = true) (k9 : (P.stopKnobs == []) = true)
    (k10 : (c.inPlace == P.inPlace f) = true) (k11 : (c.unfollowed == P.unfollowed f) = true) (k12 : (c.recurses == P.recurses f) = true) (k13 : (c.named == P.varsNamed f) = true)
    (k14 : (c.maps == (fn.params.toList ++ s.plain.varTypes P).any (P.mapsRec ·)) = true) (k15 : (c.ifaces == (fn.params.toList ++ s.plain.varTypes P).any (P.ifacesRec ·)) = true) (k16 : (c.mapsOut == P.mapsAmong fn.resultTypes.toList) = true)
    (k17 : (c.loops == (fn.params.toList ++ s.plain.varTypes P).any (P.loopsFrom ·)) = true) (k18 : (c.wideKeys == (fn.params.toList ++ s.plain.varTypes P ++ fn.resultTypes.toList).any (P.wideKeysFrom ·)) = true)
    (k19 : s.vars.all (P.varReadable ·) = true) (k20 : fn.resultTypes.all (fun t => P.readableRec t && decide (t < P.types.size)) = true) (k21 : (c.ifacesOut == fn.resultTypes.toList.any (P.ifacesRec ·)) = true) (k22 : (c.loopsOut == fn.resultTypes.toList.any (P.loopsFrom ·)) = true)
    (k23 : (c.plainKeys == P.plainKeys) = true) (k24 : c.shortTexts.isNone = true) (k25 : P.stopsHeard = true) (k26 : P.mayEnter = true) (k27 : (c.lifted == P.liftsFinal) = true) (k28 : (P.make == some c.make) = true)
    (k29 : (c.kinds == (if c.domain.isEmpty then [] else fn.params.toList.map fun t => match P.underlying t with | some (.int k) => some k | _ => none)) = true) (k30 : (c.pinned == c.pinnedBy) = true)
    (k31 : (c.veiled == (fn.params.toList ++ s.plain.varTypes P ++ fn.resultTypes.toList).any (P.veiledRec ·)) = true) (k32 : c.veiledFits P fn.params.toList (fn.params.toList ++ s.plain.varTypes P ++ fn.resultTypes.toList) = true) : joinedFacts P f fn s c = true := by
  unfold joinedFacts
  simp only [Bool.and_eq_true]
  exact ⟨⟨⟨⟨⟨⟨⟨⟨⟨⟨⟨⟨⟨⟨⟨⟨⟨⟨⟨⟨⟨⟨⟨⟨⟨⟨⟨⟨⟨⟨⟨k1, k2⟩, k3⟩, k4⟩, k5⟩, k6⟩, k7⟩, k8⟩, k9⟩, k10⟩, k11⟩, k12⟩, k13⟩, k14⟩, k15⟩, k16⟩, k17⟩, k18⟩, k19⟩, k20⟩, k21⟩, k22⟩, k23⟩, k24⟩, k25⟩, k26⟩, k27⟩, k28⟩, k29⟩, k30⟩, k31⟩, k32⟩
end Go.GL

namespace Go.GL
open Go Go.RowKit

/-! ## 29. A store into a slice that is an element of a slice of the call's own -/
def IX (size : Nat) (u : Value) (j : Nat) (q : Addr) : Prop := ∃ a n c, u = .slice (some a) n c ∧ q = a.add (j * size)
theorem addr_add0 (g n : Nat) : (⟨g, 0, none⟩ : Addr).add n = ⟨g, n, none⟩ := by
  unfold Addr.add
  split
  · next h => subst h; rfl
  · simp
section
variable {P : Program} {N : Nat} {Q : Exit → Act → World → Prop} {env : Env} {w w' w0 wq : World} {ops : Array Oper} {rest : List Oper}
  {d : Nat} {t ty : TypeId} {pos : String} {af : Array Edge} {L : List Nat} {As R : List HP} {α β : Type} [GT P α] [GT P β]
theorem cell_keep {p : Addr} {B : Nat} {x : α} {u : Value} (hp : PR P wq B p x) (hb : Below B wq w) (hc : wq.cell? (p.add 0) = some u) : w.cell? (p.add 0) = some u :=
  (hb.cell (p := p.add 0) (by rw [block_add]; exact hp.1)).trans hc
theorem PO_of_IX {u : Value} {m : List β} {j : Nat} {q : Addr} {fp : List Nat} (H : St w fp w [ownL P u m]) (h : IX (GT.size P β) u j q) : PO (GT.size P β) u j 0 q := by
  obtain ⟨fp', ho, -⟩ := H.get (k := 0) rfl
  obtain ⟨v, xs, g, he, hown, -, -⟩ := ho
  simp only [List.cons.injEq, and_true] at he
  subst he
  obtain ⟨a, n, c, rfl, rfl⟩ := h
  obtain ⟨-, hr⟩ := hown
  rcases hr with ⟨h1, -⟩ | ⟨b, cap, cur, h1, -⟩
  · cases h1
  · simp only [Value.slice.injEq, Option.some.injEq] at h1
    obtain ⟨rfl, -, -⟩ := h1
    unfold PO
    simp [Value.ownBlock, addr_add0]
theorem r_sto_in {off : Nat} {x y : Operand} {v u val : Value} {i j : Nat} {l : List α} {e : α} {b b' : β} {p q : Addr} {vs : List Value} (H : St w0 L w (ownL P v l :: R)) (ln : Lens P α β off) (hp : PO (GT.size P α) v i off p) (he : l[i]? = some e)
    (hc : w.cell? (p.add 0) = some u) (hoff : Nat.blt off (GT.size P α) = true) (hix : IX (GT.size P β) u j q) (hj : (ln.get e)[j]? = some b)
    (hx : ev env x = some (.pointer (some q))) (hy : ev env y = some val) (hv : val.cells.toList = vs) {agg : Bool} (hsz : tiB P t vs.length agg = true) (h1 : ∀ u ∈ vs, u.oneCell' = true) (hin : Nat.ble (0 + vs.length) (GT.size P β) = true)
    (hod : ∀ (w : World) cs f, GT.od P w cs b f → GT.od P w (splice cs 0 vs) b' f)
    (h : ∀ w', St w0 L w' (ownL P v (l.set i (ln.set e ((ln.get e).set j b'))) :: R) → rwp P N ops Q rest env w') :
    rwp P N ops Q (⟨none, .store t x y, ty, pos, af, none⟩ :: rest) env w := by
  obtain ⟨fp, Hl, -, hback⟩ := St.lend_at H ln hp he hc hoff
  exact r_sto (k := 0) Hl rfl (PO_of_IX Hl hix) hj hx hy hv hsz h1 hin hod (fun w' _ H' => h w' (hback w' _ H'))
theorem r_index_ix {x y : Operand} {v : Value} {k : IntKind} {i : Int} {l : List α} {e : α} {B : Nat} (ht : slB P t (GT.tid P α) = true) (hN : Nat.blt d N = true)
    (hr : rdL P wq B [v] l) (hx : ev env x = some v) (hy : ev env y = some (.int k i)) (h0 : 0 ≤ i) (he : l[i.toNat]? = some e)
    (h : ∀ p, PR P wq B p e → IX (GT.size P α) v i.toNat p → rwp P N ops Q rest ((d, .pointer (some p)) :: env) w) : rwp P N ops Q (⟨some d, .indexAddr t x y, ty, pos, af, none⟩ :: rest) env w := by
  obtain ⟨v', hv, -, hr⟩ := hr
  simp only [List.cons.injEq, and_true] at hv
  subst hv
  have hil : i.toNat < l.length := (List.getElem?_eq_some_iff.1 he).1
  rcases hr with ⟨-, rfl⟩ | ⟨a, cap, xs, rfl, h1, h2, h3, h4, h5⟩
  · cases he
  · obtain ⟨ie, u, hi, hs, hu, -⟩ := tiB_spec (GT.ti (P := P) (α := α))
    obtain ⟨cs, hcs, hat⟩ := rdAll_get h5 he
    have hpos := GT.pos (P := P) (α := α)
    have hlen := GT.rd_len hcs
    have hne : xs ≠ [] := by
      rintro rfl
      have := hat 0 (cs[0]'(by omega)) (List.getElem?_eq_getElem _)
      cases this
    refine r_val (v := .pointer (some (a.add (i.toNat * GT.size P α)))) (w' := w) rfl rfl hN (fun b hb => by simp [execOp, hb.eval hx, hb.eval hy, run_indexAt (slB_spec ht) hi h0 (show i < (l.length : Int) by omega), hs]) (h _ ?_ ⟨a, _, _, rfl, rfl⟩)
    refine ⟨by rw [block_add]; exact h3 hne, cs, fun j u hu' => ?_, hcs⟩
    rw [add_add]
    exact h4 _ u (hat j u hu')
theorem x_index_ix {v : Value} {i : Int} {l : List α} {e : α} {B : Nat} (ht : slB P t (GT.tid P α) = true)
    (hr : rdL P wq B [v] l) (h0 : 0 ≤ i) (he : l[i.toNat]? = some e) :
    ∃ p, PR P wq B p e ∧ IX (GT.size P α) v i.toNat p ∧ ∀ {N : Nat} {env : Env} {w : World} {d : Nat} {ty : TypeId} {pos : String} {af : Array Edge} {gd : Option (Nat × Bool)} {x y : Operand} {k : IntKind},
      ev env x = some v → ev env y = some (.int k i) → X P N env w ⟨some d, .indexAddr t x y, ty, pos, af, gd⟩ (.pointer (some p)) := by
  obtain ⟨v', hv, -, hr⟩ := hr
  simp only [List.cons.injEq, and_true] at hv
  subst hv
  have hil : i.toNat < l.length := (List.getElem?_eq_some_iff.1 he).1
  rcases hr with ⟨-, rfl⟩ | ⟨a, cap, xs, rfl, h1, h2, h3, h4, h5⟩
  · cases he
  · obtain ⟨ie, u, hi, hs, hu, -⟩ := tiB_spec (GT.ti (P := P) (α := α))
    obtain ⟨cs, hcs, hat⟩ := rdAll_get h5 he
    have hpos := GT.pos (P := P) (α := α)
    have hlen := GT.rd_len hcs
    have hne : xs ≠ [] := by
      rintro rfl
      have := hat 0 (cs[0]'(by omega)) (List.getElem?_eq_getElem _)
      cases this
    refine ⟨a.add (i.toNat * GT.size P α), ⟨by rw [block_add]; exact h3 hne, cs, fun j u hu' => ?_, hcs⟩, ⟨a, _, _, rfl, rfl⟩, fun hx hy b hb => by simp [execOp, hb.eval hx, hb.eval hy, run_indexAt (slB_spec ht) hi h0 (show i < (l.length : Int) by omega), hs]⟩
    rw [add_add]
    exact h4 _ u (hat j u hu')
theorem x_load_c [GT P (List α)] {p : Addr} {e : List α} {B : Nat} (hrd : ∀ {w B cs} {l : List α}, GT.rd P w B cs l → rdL P w B cs l) (hagg : GT.agg P (List α) = false) (ht : Nat.beq t (GT.tid P (List α)) = true) (hp : PR P wq B p e) :
    ∃ v, rdL P wq B [v] e ∧ wq.cell? (p.add 0) = some v ∧ ∀ {N : Nat} {env : Env} {w : World} {d : Nat} {ty : TypeId} {pos : String} {af : Array Edge} {gd : Option (Nat × Bool)} {x : Operand},
      Below B wq w → ev env x = some (.pointer (some p)) → X P N env w ⟨some d, .load t x, ty, pos, af, gd⟩ v := by
  obtain rfl : t = GT.tid P (List α) := Nat.eq_of_beq_eq_true ht
  obtain ⟨h1, cs, h2, h3⟩ := hp
  have h4 := hrd h3
  obtain ⟨v, rfl, h5⟩ := _root_.id h4
  refine ⟨v, h4, h2 0 v rfl, fun {N env w d ty pos af gd x} hb hx a ha => ?_⟩
  have := run_loadAt (GT.ti (P := P) (α := List α)) (GT.one) (GT.rd_len h3) (fun j u hu => (hb.cell (p := p.add j) (by rw [block_add]; exact h1)).trans (h2 j u hu))
  rw [hagg] at this
  simp [execOp, ha.eval hx, this, toVal]
end

/-! ## 30. Regions that draw their order: what does not look at memory -/
theorem anyE_takeN {P : Program} {ops : Array Oper} {Q : Exit → Act → World → Prop} {S : World → Prop} {E : Nat → Bool} {i : Nat} {oi : Oper} {v : Value} (hi : ops[i]? = some oi) (hs : Region.noSelect ops = true) (hE : E i = true)
    (hQ : ∀ c a w, Q (.panic c) (a.put oi.dst v) w → Q (.panic c) a w) : ∀ (fuel : Nat) (listed : Array Bool) (a : Act) (w : World), Region.free .any ops listed i = true → (Region.ready .any ops listed).contains i = true →
      YieldsIf P ops (fun _ => True) oi v a → anyE P ops Q S E fuel (listed.setIfInBounds i true) (a.put oi.dst v) w → anyE P ops Q S E (fuel + 1) listed a w := by
  have hsel := Region.noSelect_spec hs
  have main : ∀ (fuel : Nat) (listed : Array Bool) (a : Act) (w : World), (∀ j oj, ops[j]? = some oj → j ≠ i → listed.getD j true = false → (∀ e ∈ oj.after, Region.binds .any e = true → e.on ≠ i) → oi.apart ops oj = true) →
      i ∈ Region.ready .any ops listed → YieldsIf P ops (fun _ => True) oi v a → anyE P ops Q S E fuel (listed.setIfInBounds i true) (a.put oi.dst v) w → anyE P ops Q S E (fuel + 1) listed a w := by
    intro fuel
    induction fuel with
    | zero =>
      intro listed a w _ hr hy H
      constructor
      · intro h0; rw [h0] at hr; cases hr
      · intro j hj
        by_cases hji : j = i
        · subst hji; exact hy.wpOp hi trivial ⟨fun h => (by rw [hE] at h; cases h), H⟩
        · have h2 := ready_mono hj hji
          rw [H.1] at h2
          cases h2
    | succ fuel ih =>
      intro listed a w hap hr hy H
      constructor
      · intro h0; rw [h0] at hr; cases hr
      · intro j hj
        by_cases hji : j = i
        · subst hji; exact hy.wpOp hi trivial ⟨fun h => (by rw [hE] at h; cases h), H⟩
        · have hstep := H.2 j (ready_mono hj hji)
          obtain ⟨hun, oj, hoj, hdone⟩ := mem_ready.1 hj
          have hiun := (mem_ready.1 hr).1
          have hlisted : listed.getD i false = true → False := by
            intro hl
            rcases Nat.lt_or_ge i listed.size with h' | h'
            · simp [h'] at hiun hl; rw [hiun] at hl; cases hl
            · simp [Array.getElem?_eq_none h'] at hl
          have hno : ∀ e ∈ oj.after, Region.binds .any e = true → e.on ≠ i := fun e he hb heq => hlisted (heq ▸ hdone e he hb)
          refine wpOp_mono ?_ (wpOp_putIf hoj (hap j oj hoj hji hun hno) (fun cs b => hsel i oi cs b hi) (fun cs b => hsel j oj cs b hoj) hQ hy hstep)
          rintro a' w' ⟨hy', hS', hrest⟩
          refine ⟨hS', ih (listed.setIfInBounds j true) a' w' ?_ (ready_mono hr (Ne.symm hji)) hy' ?_⟩
          · intro k ok hk hki hkun hkno
            refine hap k ok hk hki ?_ hkno
            by_cases hjk : j = k
            · subst hjk; exact hun
            · rwa [getD_set_ne true hjk] at hkun
          · rw [Array.setIfInBounds_comm _ _ hji]; exact hrest
  intro fuel listed a w hf hr hy H
  exact main fuel listed a w (Region.free_spec hi hf) (by simpa using hr) hy H
section
variable {P : Program} {N : Nat} {Q : Exit → Act → World → Prop} {env : Env} {w : World} {ops : Array Oper} {S : World → Prop} {d : Nat} {fuel : Nat} {listed : Array Bool} {E : Nat → Bool}
theorem n_take {i : Nat} {o : Oper} {v : Value} (hi : ops[i]? = some o) (hd : o.dst = some d) (hg : o.guard = none) (hN : Nat.blt d N = true) (hs : Region.noSelect ops = true) (hE : E i = true) (hf : Region.free .any ops listed i = true) (hr : (Region.ready .any ops listed).contains i = true)
    (hQ : ∀ c a w, Q (.panic c) (a.put o.dst v) w → Q (.panic c) a w) (hx : ∀ w1, X P N env w1 o v)
    (h : awp P N ops Q S E fuel (listed.setIfInBounds i true) ((d, v) :: env) w) : awp P N ops Q S E (fuel + 1) listed env w := fun a ha =>
  anyE_takeN hi hs hE hQ fuel listed a w hf hr (.inl ⟨by simp [Region.wanted, hg], fun w1 _ => hx w1 a ha⟩) (by rw [hd]; exact h _ (ha.put hN))
end
end Go.GL

namespace Go.GL
open Go Go.RowKit

/-! ## 31. Regions that draw their order, once more: W are the operations that change what was there; S is owed as long as none of them is listed -/
def nW (ops : Array Oper) (W : Nat → Bool) (listed : Array Bool) : Bool := (List.range ops.size).all fun j => !(W j && listed.getD j false)
def anyW (P : Program) (ops : Array Oper) (Q : Exit → Act → World → Prop) (S : World → Prop) (W : Nat → Bool) : Nat → Array Bool → Act → World → Prop
  | 0, listed, a, w => Region.ready .any ops listed = [] ∧ Q .normal a w
  | fuel + 1, listed, a, w => (Region.ready .any ops listed = [] → Q .normal a w) ∧
      ∀ i ∈ Region.ready .any ops listed, wpOp P ops Q i (fun a' w' => (nW ops W (listed.setIfInBounds i true) = true → S w') ∧ anyW P ops Q S W fuel (listed.setIfInBounds i true) a' w') a w
theorem anyW_sound {P : Program} {ops : Array Oper} {Q : Exit → Act → World → Prop} {S : World → Prop} {W : Nat → Bool} : ∀ (fuel : Nat) (listed : Array Bool) (a : Act) (w : World), anyW P ops Q S W fuel listed a w → wpAny P .any ops Q fuel listed a w := by
  intro fuel
  induction fuel with
  | zero => intro listed a w h; exact h
  | succ n ih => intro listed a w h; exact ⟨h.1, fun i hi => wpOp_mono (fun a' w' hh => ih _ a' w' hh.2) (h.2 i hi)⟩
theorem ready_notListed {ops : Array Oper} {listed : Array Bool} {i : Nat} (hr : i ∈ Region.ready .any ops listed) : listed.getD i false = true → False := by
  have hiun := (mem_ready.1 hr).1
  intro hl
  rcases Nat.lt_or_ge i listed.size with h' | h'
  · simp [h'] at hiun hl; rw [hiun] at hl; cases hl
  · simp [Array.getElem?_eq_none h'] at hl
theorem nW_set {ops : Array Oper} {W : Nat → Bool} {listed : Array Bool} {j : Nat} (h : nW ops W listed = true) (hj : W j = false) : nW ops W (listed.setIfInBounds j true) = true := by
  unfold nW at *
  rw [List.all_eq_true] at *
  intro k hk
  have := h k hk
  by_cases hkj : j = k
  · subst hkj; rw [hj]; rfl
  · rw [getD_set_ne false hkj]; exact this
theorem closed_set {ops : Array Oper} {listed : Array Bool} {j : Nat} {oj : Oper} (hcl : ∀ {k i : Nat}, listed.getD k false = true → depB ops k i = true → listed.getD i false = true) (hoj : ops[j]? = some oj) (hjr : j ∈ Region.ready .any ops listed)
    (hdone : ∀ e ∈ oj.after, Region.binds .any e = true → listed.getD e.on false = true) : ∀ {k i : Nat}, (listed.setIfInBounds j true).getD k false = true → depB ops k i = true → (listed.setIfInBounds j true).getD i false = true := by
  intro k m hk hd
  by_cases hkj : j = k
  · subst hkj
    have : listed.getD m false = true := by
      unfold depB at hd
      rw [hoj] at hd
      obtain ⟨e, he, hb⟩ := Array.any_eq_true'.1 hd
      simp only [Bool.and_eq_true, beq_iff_eq] at hb
      exact hb.2 ▸ hdone e he hb.1
    by_cases hmj : j = m
    · subst hmj; exact hk
    · rwa [getD_set_ne false hmj]
  · rw [getD_set_ne false hkj] at hk
    have := hcl hk hd
    by_cases hmj : j = m
    · subst hmj; exact (ready_notListed hjr this).elim
    · rwa [getD_set_ne false hmj]
/-- an operation that looks at memory is taken first: those of W wait for it -/
theorem anyW_take {P : Program} {ops : Array Oper} {Q : Exit → Act → World → Prop} {S : World → Prop} {W : Nat → Bool} {i : Nat} {oi : Oper} {v : Value} {ps : List (List Nat)} (hi : ops[i]? = some oi) (hs : Region.noSelect ops = true) (hw : waitsP ops W ps i = true)
    (hQ : ∀ c a w, Q (.panic c) (a.put oi.dst v) w → Q (.panic c) a w) : ∀ (fuel : Nat) (listed : Array Bool) (a : Act) (w : World), closedB ops listed = true → nW ops W listed = true → Region.free .any ops listed i = true → (Region.ready .any ops listed).contains i = true →
      YieldsIf P ops S oi v a → S w → anyW P ops Q S W fuel (listed.setIfInBounds i true) (a.put oi.dst v) w → anyW P ops Q S W (fuel + 1) listed a w := by
  have hsel := Region.noSelect_spec hs
  have main : ∀ (fuel : Nat) (listed : Array Bool) (a : Act) (w : World), (∀ {k i : Nat}, listed.getD k false = true → depB ops k i = true → listed.getD i false = true) → nW ops W listed = true → (∀ j oj, ops[j]? = some oj → j ≠ i → listed.getD j true = false → (∀ e ∈ oj.after, Region.binds .any e = true → e.on ≠ i) → oi.apart ops oj = true) →
      i ∈ Region.ready .any ops listed → YieldsIf P ops S oi v a → S w → anyW P ops Q S W fuel (listed.setIfInBounds i true) (a.put oi.dst v) w → anyW P ops Q S W (fuel + 1) listed a w := by
    intro fuel
    induction fuel with
    | zero =>
      intro listed a w _ _ _ hr hy hS H
      constructor
      · intro h0; rw [h0] at hr; cases hr
      · intro j hj
        by_cases hji : j = i
        · subst hji; exact hy.wpOp hi hS ⟨fun _ => hS, H⟩
        · have h2 := ready_mono hj hji
          rw [H.1] at h2
          cases h2
    | succ fuel ih =>
      intro listed a w hcl hn hap hr hy hS H
      constructor
      · intro h0; rw [h0] at hr; cases hr
      · intro j hj
        by_cases hji : j = i
        · subst hji; exact hy.wpOp hi hS ⟨fun _ => hS, H⟩
        · have hstep := H.2 j (ready_mono hj hji)
          obtain ⟨hun, oj, hoj, hdone⟩ := mem_ready.1 hj
          have hno : ∀ e ∈ oj.after, Region.binds .any e = true → e.on ≠ i := fun e he hb heq => ready_notListed hr (heq ▸ hdone e he hb)
          have hWj : W j = false := by
            cases hc : W j with
            | false => rfl
            | true =>
              exfalso
              unfold waitsP at hw
              rw [List.all_eq_true] at hw
              have := hw j (List.mem_range.2 (Array.getElem?_eq_some_iff.1 hoj).1)
              rw [hc, Bool.not_true, Bool.false_or] at this
              obtain ⟨p, _, hp⟩ := List.any_eq_true.1 this
              rw [Bool.and_eq_true, Bool.and_eq_true] at hp
              obtain ⟨⟨h1, h2⟩, h3⟩ := hp
              cases hz : p.getLast? with
              | none => rw [hz] at h2; cases h2
              | some z =>
                rw [hz] at h2
                have h2 : z = i := by simpa using h2
                subst h2
                match p, h1, h3, hz with
                | a :: b :: r, h1, h3, hz =>
                  have h1 : a = j := by simpa using h1
                  subst h1
                  unfold chainB at h3
                  rw [Bool.and_eq_true] at h3
                  refine ready_notListed hr (chain_listed hcl (p := b :: r) h3.2 (fun h hh => ?_) (by simpa using hz))
                  simp at hh; subst hh
                  have hd := h3.1
                  unfold depB at hd
                  rw [hoj] at hd
                  obtain ⟨e, he, hb⟩ := Array.any_eq_true'.1 hd
                  simp only [Bool.and_eq_true, beq_iff_eq] at hb
                  exact hb.2 ▸ hdone e he hb.1
          refine wpOp_mono ?_ (wpOp_putIf hoj (hap j oj hoj hji hun hno) (fun cs b => hsel i oi cs b hi) (fun cs b => hsel j oj cs b hoj) hQ hy hstep)
          rintro a' w' ⟨hy', hS', hrest⟩
          have hn2 := nW_set hn hWj
          have hSw : S w' := by
            refine hS' ?_
            cases hWi : W i with
            | false => exact nW_set (nW_set hn hWi) hWj
            | true =>
              exfalso
              unfold waitsP at hw
              rw [List.all_eq_true] at hw
              have := hw i (List.mem_range.2 (Array.getElem?_eq_some_iff.1 hi).1)
              rw [hWi, Bool.not_true, Bool.false_or] at this
              obtain ⟨p, _, hp⟩ := List.any_eq_true.1 this
              rw [Bool.and_eq_true, Bool.and_eq_true] at hp
              obtain ⟨⟨h1, h2⟩, h3⟩ := hp
              cases hz : p.getLast? with
              | none => rw [hz] at h2; cases h2
              | some z =>
                rw [hz] at h2
                have h2 : z = i := by simpa using h2
                subst h2
                obtain ⟨-, oi', hoi', hdonei⟩ := mem_ready.1 hr
                match p, h1, h3, hz with
                | a :: b :: r, h1, h3, hz =>
                  have h1 : a = z := by simpa using h1
                  subst h1
                  unfold chainB at h3
                  rw [Bool.and_eq_true] at h3
                  refine ready_notListed hr (chain_listed hcl (p := b :: r) h3.2 (fun h hh => ?_) (by simpa using hz))
                  simp at hh; subst hh
                  have hd := h3.1
                  unfold depB at hd
                  rw [hoi'] at hd
                  obtain ⟨e, he, hb⟩ := Array.any_eq_true'.1 hd
                  simp only [Bool.and_eq_true, beq_iff_eq] at hb
                  exact hb.2 ▸ hdonei e he hb.1
          refine ⟨fun _ => hSw, ih (listed.setIfInBounds j true) a' w' (closed_set hcl hoj hj hdone) hn2 ?_ (ready_mono hr (Ne.symm hji)) hy' hSw ?_⟩
          · intro k ok hk hki hkun hkno
            refine hap k ok hk hki ?_ hkno
            by_cases hjk : j = k
            · subst hjk; exact hun
            · rwa [getD_set_ne true hjk] at hkun
          · rw [Array.setIfInBounds_comm _ _ hji]; exact hrest
  intro fuel listed a w hcl hn hf hr hy hS H
  exact main fuel listed a w (closedB_spec hcl) hn (Region.free_spec hi hf) (by simpa using hr) hy hS H
/-- an operation that does not look at memory is taken first -/
theorem anyW_takeN {P : Program} {ops : Array Oper} {Q : Exit → Act → World → Prop} {S : World → Prop} {W : Nat → Bool} {i : Nat} {oi : Oper} {v : Value} (hi : ops[i]? = some oi) (hs : Region.noSelect ops = true) (hW : W i = false)
    (hQ : ∀ c a w, Q (.panic c) (a.put oi.dst v) w → Q (.panic c) a w) : ∀ (fuel : Nat) (listed : Array Bool) (a : Act) (w : World), Region.free .any ops listed i = true → (Region.ready .any ops listed).contains i = true →
      YieldsIf P ops (fun _ => True) oi v a → (nW ops W listed = true → S w) → anyW P ops Q S W fuel (listed.setIfInBounds i true) (a.put oi.dst v) w → anyW P ops Q S W (fuel + 1) listed a w := by
  have hsel := Region.noSelect_spec hs
  have nback : ∀ {listed : Array Bool} {j : Nat}, listed.getD j false ≠ true → nW ops W (listed.setIfInBounds j true) = true → nW ops W listed = true := by
    intro listed j hj h
    unfold nW at *
    rw [List.all_eq_true] at *
    intro k hk
    have := h k hk
    by_cases hkj : j = k
    · subst hkj; rw [Bool.eq_false_iff.2 hj, Bool.and_false]; rfl
    · rw [getD_set_ne false hkj] at this; exact this
  have main : ∀ (fuel : Nat) (listed : Array Bool) (a : Act) (w : World), (∀ j oj, ops[j]? = some oj → j ≠ i → listed.getD j true = false → (∀ e ∈ oj.after, Region.binds .any e = true → e.on ≠ i) → oi.apart ops oj = true) →
      i ∈ Region.ready .any ops listed → YieldsIf P ops (fun _ => True) oi v a → (nW ops W listed = true → S w) → anyW P ops Q S W fuel (listed.setIfInBounds i true) (a.put oi.dst v) w → anyW P ops Q S W (fuel + 1) listed a w := by
    intro fuel
    induction fuel with
    | zero =>
      intro listed a w _ hr hy hS H
      constructor
      · intro h0; rw [h0] at hr; cases hr
      · intro j hj
        by_cases hji : j = i
        · subst hji; exact hy.wpOp hi trivial ⟨fun h => hS (nback (fun h => ready_notListed hr h) h), H⟩
        · have h2 := ready_mono hj hji
          rw [H.1] at h2
          cases h2
    | succ fuel ih =>
      intro listed a w hap hr hy hS H
      constructor
      · intro h0; rw [h0] at hr; cases hr
      · intro j hj
        by_cases hji : j = i
        · subst hji; exact hy.wpOp hi trivial ⟨fun h => hS (nback (fun h => ready_notListed hr h) h), H⟩
        · have hstep := H.2 j (ready_mono hj hji)
          obtain ⟨hun, oj, hoj, hdone⟩ := mem_ready.1 hj
          have hno : ∀ e ∈ oj.after, Region.binds .any e = true → e.on ≠ i := fun e he hb heq => ready_notListed hr (heq ▸ hdone e he hb)
          refine wpOp_mono ?_ (wpOp_putIf hoj (hap j oj hoj hji hun hno) (fun cs b => hsel i oi cs b hi) (fun cs b => hsel j oj cs b hoj) hQ hy hstep)
          rintro a' w' ⟨hy', hS', hrest⟩
          have hS2 : nW ops W (listed.setIfInBounds j true) = true → S w' := fun h => hS' (by rw [Array.setIfInBounds_comm _ _ (Ne.symm hji)]; exact nW_set h hW)
          refine ⟨hS2, ih (listed.setIfInBounds j true) a' w' ?_ (ready_mono hr (Ne.symm hji)) hy' hS2 ?_⟩
          · intro k ok hk hki hkun hkno
            refine hap k ok hk hki ?_ hkno
            by_cases hjk : j = k
            · subst hjk; exact hun
            · rwa [getD_set_ne true hjk] at hkun
          · rw [Array.setIfInBounds_comm _ _ hji]; exact hrest
  intro fuel listed a w hf hr hy hS H
  exact main fuel listed a w (Region.free_spec hi hf) (by simpa using hr) hy hS H
def awpW (P : Program) (N : Nat) (ops : Array Oper) (Q : Exit → Act → World → Prop) (S : World → Prop) (W : Nat → Bool) (fuel : Nat) (listed : Array Bool) (env : Env) (w : World) : Prop :=
  ∀ a, Rel N env a → anyW P ops Q S W fuel listed a w
def dQW (P : Program) (ops : Array Oper) (Q : Exit → Act → World → Prop) (S : World → Prop) (W : Nat → Bool) (fuel : Nat) (listed : Array Bool) : Exit → Act → World → Prop
  | .normal, a, w => (nW ops W listed = true → S w) ∧ anyW P ops Q S W fuel listed a w
  | e, a, w => Q e a w
section
variable {P : Program} {N : Nat} {Q : Exit → Act → World → Prop} {env : Env} {w : World} {ops : Array Oper} {S : World → Prop} {d : Nat} {fuel : Nat} {listed : Array Bool} {W : Nat → Bool}
theorem w_start {id : Nat} {l : List Oper} (W : Nat → Bool) (hm : P.follows .mixedOrders = true) (h : ∀ w', Below w.heap.size w w' → awpW P N l.toArray Q (fun w1 => Below w.heap.size w w1) W l.toArray.size (Array.replicate l.toArray.size false) env w') :
    cwp P N (.region id l.toArray true) Q env w := fun a ha => wp_region_any hm (anyW_sound _ _ _ _ (h _ (below_drew w) a ha))
theorem w_take {i : Nat} {o : Oper} {v : Value} (ps : List (List Nat)) (hcl : closedB ops listed = true) (hn : nW ops W listed = true) (hi : ops[i]? = some o) (hd : o.dst = some d) (hg : o.guard = none) (hN : Nat.blt d N = true) (hs : Region.noSelect ops = true) (hw : waitsP ops W ps i = true) (hf : Region.free .any ops listed i = true) (hr : (Region.ready .any ops listed).contains i = true)
    (hQ : ∀ c a w, Q (.panic c) (a.put o.dst v) w → Q (.panic c) a w) (hS : S w) (hx : ∀ w1, S w1 → X P N env w1 o v)
    (h : awpW P N ops Q S W fuel (listed.setIfInBounds i true) ((d, v) :: env) w) : awpW P N ops Q S W (fuel + 1) listed env w := fun a ha =>
  anyW_take hi hs hw hQ fuel listed a w hcl hn hf hr (.inl ⟨by simp [Region.wanted, hg], fun w1 h1 => hx w1 h1 a ha⟩) hS (by rw [hd]; exact h _ (ha.put hN))
theorem w_take_g {i g e : Nat} {b : Bool} {o : Oper} {v : Value} (ps : List (List Nat)) (hcl : closedB ops listed = true) (hn : nW ops W listed = true) (hi : ops[i]? = some o) (hd : o.dst = some d) (hg : o.guard = some (g, b)) (hgd : (ops[g]?).bind (·.dst) = some e) (hv : env.get e = some (.bool b)) (hN : Nat.blt d N = true) (hs : Region.noSelect ops = true) (hw : waitsP ops W ps i = true) (hf : Region.free .any ops listed i = true) (hr : (Region.ready .any ops listed).contains i = true)
    (hQ : ∀ c a w, Q (.panic c) (a.put o.dst v) w → Q (.panic c) a w) (hS : S w) (hx : ∀ w1, S w1 → X P N env w1 o v)
    (h : awpW P N ops Q S W fuel (listed.setIfInBounds i true) ((d, v) :: env) w) : awpW P N ops Q S W (fuel + 1) listed env w := fun a ha =>
  anyW_take hi hs hw hQ fuel listed a w hcl hn hf hr (.inl ⟨by simp [Region.wanted, hg, yielded_bool ha hgd hv], fun w1 h1 => hx w1 h1 a ha⟩) hS (by rw [hd]; exact h _ (ha.put hN))
theorem w_pure {i : Nat} {o : Oper} {v : Value} (hi : ops[i]? = some o) (hd : o.dst = some d) (hg : o.guard = none) (hN : Nat.blt d N = true) (hs : Region.noSelect ops = true) (hW : W i = false) (hf : Region.free .any ops listed i = true) (hr : (Region.ready .any ops listed).contains i = true)
    (hQ : ∀ c a w, Q (.panic c) (a.put o.dst v) w → Q (.panic c) a w) (hS : nW ops W listed = true → S w) (hx : ∀ w1, X P N env w1 o v)
    (h : awpW P N ops Q S W fuel (listed.setIfInBounds i true) ((d, v) :: env) w) : awpW P N ops Q S W (fuel + 1) listed env w := fun a ha =>
  anyW_takeN hi hs hW hQ fuel listed a w hf hr (.inl ⟨by simp [Region.wanted, hg], fun w1 _ => hx w1 a ha⟩) hS (by rw [hd]; exact h _ (ha.put hN))
theorem w_pure_g {i g e : Nat} {b : Bool} {o : Oper} {v : Value} (hi : ops[i]? = some o) (hd : o.dst = some d) (hg : o.guard = some (g, b)) (hgd : (ops[g]?).bind (·.dst) = some e) (hv : env.get e = some (.bool b)) (hN : Nat.blt d N = true) (hs : Region.noSelect ops = true) (hW : W i = false) (hf : Region.free .any ops listed i = true) (hr : (Region.ready .any ops listed).contains i = true)
    (hQ : ∀ c a w, Q (.panic c) (a.put o.dst v) w → Q (.panic c) a w) (hS : nW ops W listed = true → S w) (hx : ∀ w1, X P N env w1 o v)
    (h : awpW P N ops Q S W fuel (listed.setIfInBounds i true) ((d, v) :: env) w) : awpW P N ops Q S W (fuel + 1) listed env w := fun a ha =>
  anyW_takeN hi hs hW hQ fuel listed a w hf hr (.inl ⟨by simp [Region.wanted, hg, yielded_bool ha hgd hv], fun w1 _ => hx w1 a ha⟩) hS (by rw [hd]; exact h _ (ha.put hN))
theorem w_skip {i g e : Nat} {b c : Bool} {o : Oper} (hi : ops[i]? = some o) (hd : o.dst = some d) (hg : o.guard = some (g, b)) (hgd : (ops[g]?).bind (·.dst) = some e) (hv : env.get e = some (.bool c)) (hbc : (c == b) = false) (hN : Nat.blt d N = true) (hs : Region.noSelect ops = true) (hW : W i = false) (hf : Region.free .any ops listed i = true) (hr : (Region.ready .any ops listed).contains i = true)
    (hQ : ∀ c a w, Q (.panic c) (a.put o.dst undef) w → Q (.panic c) a w) (hS : nW ops W listed = true → S w)
    (h : awpW P N ops Q S W fuel (listed.setIfInBounds i true) ((d, undef) :: env) w) : awpW P N ops Q S W (fuel + 1) listed env w := fun a ha =>
  anyW_takeN (v := undef) hi hs hW hQ fuel listed a w hf hr (.inr ⟨by simp only [Region.wanted, hg, yielded_bool ha hgd hv]; cases b <;> cases c <;> simp_all, rfl⟩) hS (by rw [hd]; exact h _ (ha.put hN))
theorem w_skip_undef {i g e : Nat} {b : Bool} {o : Oper} (hi : ops[i]? = some o) (hd : o.dst = some d) (hg : o.guard = some (g, b)) (hgd : (ops[g]?).bind (·.dst) = some e) (hv : env.get e = some undef) (hN : Nat.blt d N = true) (hs : Region.noSelect ops = true) (hW : W i = false) (hf : Region.free .any ops listed i = true) (hr : (Region.ready .any ops listed).contains i = true)
    (hQ : ∀ c a w, Q (.panic c) (a.put o.dst undef) w → Q (.panic c) a w) (hS : nW ops W listed = true → S w)
    (h : awpW P N ops Q S W fuel (listed.setIfInBounds i true) ((d, undef) :: env) w) : awpW P N ops Q S W (fuel + 1) listed env w := fun a ha =>
  anyW_takeN (v := undef) hi hs hW hQ fuel listed a w hf hr (.inr ⟨by simp [Region.wanted, hg, yielded_undef ha hgd hv], rfl⟩) hS (by rw [hd]; exact h _ (ha.put hN))
theorem w_of_one {i : Nat} {o : Oper} (hi : ops[i]? = some o) {a : Act} (h1 : wpList P ops (dQW P ops Q S W fuel (listed.setIfInBounds i true)) [o] a w) :
    wpOp P ops Q i (fun a' w' => (nW ops W (listed.setIfInBounds i true) = true → S w') ∧ anyW P ops Q S W fuel (listed.setIfInBounds i true) a' w') a w := by
  unfold wpList at h1
  unfold wpOp
  simp only [hi]
  split at h1
  · rename_i hw
    rw [if_pos hw]
    rcases h1 with h1 | ⟨h1, h2⟩
    · left
      unfold Oper.wp at h1 ⊢
      generalize (execOp a.eval o).run P w = r at *
      cases r with
      | ok n w' =>
        cases n <;> simp only [Oper.upon] at h1 ⊢ <;> first
          | exact h1
          | exact Calls.mono h1 (fun e w'' he => by cases e <;> exact he)
          | exact Rows.mono h1 (fun _ _ he => he)
      | halt x w' => cases x <;> simp only [Oper.upon] at h1 ⊢ <;> exact h1
    · right
      exact ⟨h1, by obtain ⟨a', w', h3⟩ := h2; exact ⟨a', w', h3⟩⟩
  · rename_i hw
    rw [if_neg hw]
    exact h1
theorem w_one {i : Nat} {o : Oper} (hi : ops[i]? = some o) (hr : Region.ready .any ops listed = [i]) (h : rwp P N ops (dQW P ops Q S W fuel (listed.setIfInBounds i true)) [o] env w) : awpW P N ops Q S W (fuel + 1) listed env w := by
  intro a ha
  refine ⟨fun h0 => (by rw [hr] at h0; cases h0), fun j hj => ?_⟩
  rw [hr] at hj
  simp only [List.mem_singleton] at hj
  subst hj
  exact w_of_one hi (h a ha)
theorem w_two {i j : Nat} {o q : Oper} (hi : ops[i]? = some o) (hj : ops[j]? = some q) (hr : Region.ready .any ops listed = [i, j])
    (h1 : rwp P N ops (dQW P ops Q S W fuel (listed.setIfInBounds i true)) [o] env w) (h2 : rwp P N ops (dQW P ops Q S W fuel (listed.setIfInBounds j true)) [q] env w) : awpW P N ops Q S W (fuel + 1) listed env w := by
  intro a ha
  refine ⟨fun h0 => (by rw [hr] at h0; cases h0), fun m hm => ?_⟩
  rw [hr] at hm
  simp only [List.mem_cons, List.not_mem_nil, or_false] at hm
  rcases hm with rfl | rfl
  · exact w_of_one hi (h1 a ha)
  · exact w_of_one hj (h2 a ha)
theorem w_three {i j k : Nat} {o q r : Oper} (hi : ops[i]? = some o) (hj : ops[j]? = some q) (hk : ops[k]? = some r) (hr : Region.ready .any ops listed = [i, j, k])
    (h1 : rwp P N ops (dQW P ops Q S W fuel (listed.setIfInBounds i true)) [o] env w) (h2 : rwp P N ops (dQW P ops Q S W fuel (listed.setIfInBounds j true)) [q] env w) (h3 : rwp P N ops (dQW P ops Q S W fuel (listed.setIfInBounds k true)) [r] env w) : awpW P N ops Q S W (fuel + 1) listed env w := by
  intro a ha
  refine ⟨fun h0 => (by rw [hr] at h0; cases h0), fun m hm => ?_⟩
  rw [hr] at hm
  simp only [List.mem_cons, List.not_mem_nil, or_false] at hm
  rcases hm with rfl | rfl | rfl
  · exact w_of_one hi (h1 a ha)
  · exact w_of_one hj (h2 a ha)
  · exact w_of_one hk (h3 a ha)
theorem w_next (hS : nW ops W listed = true → S w) (h : awpW P N ops Q S W fuel listed env w) : qwp N (dQW P ops Q S W fuel listed .normal) env w := fun a ha => ⟨hS, h a ha⟩
theorem w_done (hr : Region.ready .any ops listed = []) (h : qwp N (Q .normal) env w) : awpW P N ops Q S W fuel listed env w := fun a ha => by
  cases fuel with
  | zero => exact ⟨hr, h a ha⟩
  | succ n => exact ⟨fun _ => h a ha, by rw [hr]; intro i hi; cases hi⟩
theorem nW_absurd {p : Prop} (h : nW ops W listed = false) : nW ops W listed = true → p := fun h2 => by rw [h] at h2; cases h2
end
end Go.GL

namespace Go.GL
open Go Go.RowKit

/-! ## 32. The end of a body without results -/
section
variable {P : Program} {N : Nat} {Q : Exit → Act → World → Prop} {env : Env} {w : World}
theorem q_end0 {fn : Func} {R : Ending → World → Prop} (hr : fn.results = #[]) (hR : R (.returned (.tuple #[])) w) : qwp N (bodyPost P fn R .normal) env w :=
  fun _ ha => bodyPost_ret (results_run (rs := []) (vs := []) hr rfl) ha.defers hR
theorem c_ret0 {fn : Func} {R : Ending → World → Prop} (hQ : ∀ a w, bodyPost P fn R .ret a w → Q .ret a w) (hr : fn.results = #[]) (hR : R (.returned (.tuple #[])) w) : cwp P N .ret Q env w :=
  c_ret (fun _ _ => results_run (rs := []) (vs := []) hr rfl) hR hQ
theorem w_startS {id : Nat} {l : List Oper} (S : World → Prop) (hm : P.follows .mixedOrders = true) (h : ∀ w', Below w.heap.size w w' → awpW P N l.toArray Q S (fun _ => false) l.toArray.size (Array.replicate l.toArray.size false) env w') :
    cwp P N (.region id l.toArray true) Q env w := fun a ha => wp_region_any hm (anyW_sound _ _ _ _ (h _ (below_drew w) a ha))
end
theorem set_some {α : Type} {l : List α} {i j : Nat} {v x : α} (h : l[j]? = some x) : ∃ e, (l.set i v)[j]? = some e := by
  have hj := (List.getElem?_eq_some_iff.1 h).1
  exact ⟨_, List.getElem?_eq_getElem (by rw [List.length_set]; exact hj)⟩
end Go.GL

namespace Go.GL
open Go Go.RowKit
/-! the library's insertion sort, as a plain function -/
/-- x is laid into a list that is sorted backwards -/
def insR {α : Type} (lt : α → α → Bool) (x : α) : List α → List α
  | [] => [x]
  | y :: ys => bif lt x y then y :: insR lt x ys else x :: y :: ys
def sortB {α : Type} (lt : α → α → Bool) (l : List α) : List α := l.foldl (fun acc x => insR lt x acc) []
theorem insR_len {α : Type} {lt : α → α → Bool} {x : α} {l : List α} : (insR lt x l).length = l.length + 1 := by
  induction l with
  | nil => rfl
  | cons y ys ih => unfold insR; cases lt x y <;> simp [ih]
theorem insR_mem {α : Type} {lt : α → α → Bool} {x y : α} {l : List α} : y ∈ insR lt x l ↔ y = x ∨ y ∈ l := by
  induction l with
  | nil => simp [insR]
  | cons z ys ih =>
    unfold insR
    cases lt x z
    · simp
    · simp only [cond_true, List.mem_cons, ih]
      constructor
      · rintro (h | h | h) <;> simp [h]
      · rintro (h | h | h) <;> simp [h]
theorem insR_perm {α : Type} {lt : α → α → Bool} {x : α} {l : List α} : (insR lt x l).Perm (x :: l) := by
  induction l with
  | nil => exact List.Perm.refl _
  | cons z ys ih =>
    unfold insR
    cases lt x z
    · exact List.Perm.refl _
    · exact (List.Perm.cons z ih).trans (List.Perm.swap x z ys)
theorem set_swap {α : Type} {A s : List α} {y x : α} : List.set (List.set (A ++ y :: x :: s) (A.length + 1) y) A.length x = A ++ x :: y :: s := by
  induction A with
  | nil => rfl
  | cons a A ih => simp only [List.cons_append, List.length_cons, List.set_cons_succ]; rw [ih]
theorem ins_loop {α : Type} {F : Nat → List α → Int → Option (List α)} {cmp : α → α → Option Int} {lt : α → α → Bool} {P : α → Prop}
    (hF : ∀ f l x, F (f + 1) l x = Option.bind (bif (decide (x > 0)) then (idx l x fun u => idx l (IntKind.i64.wrap (x - 1)) fun v => (cmp u v).bind fun c => some (decide (c < 0))) else (some false)) (fun q =>
      bif q then (idx l (IntKind.i64.wrap (x - 1)) fun v => idx l x fun u => idx l x fun _ => idx l (IntKind.i64.wrap (x - 1)) fun _ =>
        F f (List.set (List.set l (Int.toNat x) v) (Int.toNat (IntKind.i64.wrap (x - 1))) u) (IntKind.i64.wrap (x - 1))) else (some l)))
    (hc : ∀ u v, P u → P v → ∃ c, cmp u v = some c ∧ decide (c < 0) = lt u v) :
    ∀ (ys s : List α) (x : α) (f : Nat), (∀ y ∈ ys, P y) → P x → ys.length + s.length + 1 ≤ maxLen → ys.length < f → F f (ys.reverse ++ x :: s) ((ys.length : Nat) : Int) = some ((insR lt x ys).reverse ++ s) := by
  intro ys
  induction ys with
  | nil =>
    intro s x f _ _ _ hf
    obtain ⟨f, rfl⟩ : ∃ g, f = g + 1 := ⟨f - 1, by simp at hf; omega⟩
    rw [hF]
    rfl
  | cons y ys ih =>
    intro s x f hP hx hl hf
    obtain ⟨f, rfl⟩ : ∃ g, f = g + 1 := ⟨f - 1, by omega⟩
    have el : (y :: ys).reverse ++ x :: s = ys.reverse ++ y :: x :: s := by simp
    have h1 : ys.length + 1 < (ys.reverse ++ y :: x :: s).length := by simp
    have h0 : ys.length < (ys.reverse ++ y :: x :: s).length := by simp
    have g1 : (ys.reverse ++ y :: x :: s)[ys.length + 1] = x := by rw [List.getElem_append_right (by simp)]; simp
    have g0 : (ys.reverse ++ y :: x :: s)[ys.length] = y := by rw [List.getElem_append_right (by simp)]; simp
    have hw : IntKind.i64.wrap (((ys.length + 1 : Nat) : Int) - 1) = (ys.length : Int) := by rw [W_pred (by omega) (by simp at hl; omega)]; rfl
    rw [hF, el]
    simp only [List.length_cons, hw]
    obtain ⟨c, e1, e2⟩ := hc x y hx (hP y (List.mem_cons_self ..))
    rw [decide_eq_true (show ((ys.length + 1 : Nat) : Int) > 0 by omega), cond_true, idx_nat h1, idx_nat h0, g1, g0, e1, Option.bind_some, e2, Option.bind_some]
    unfold insR
    cases lt x y
    · simp
    · rw [cond_true, cond_true, idx_nat h0, idx_nat h1, idx_nat h1, idx_nat h0, g1, g0]
      have hs := set_swap (A := ys.reverse) (s := s) (y := y) (x := x)
      rw [List.length_reverse] at hs
      rw [Int.toNat_natCast, Int.toNat_natCast, hs, ih (y :: s) x f (fun z hz => hP z (List.mem_cons_of_mem _ hz)) hx (by simp at hl ⊢; omega) (by simp at hf; omega)]
      simp
theorem isort_loop {α : Type} {F G : Nat → List α → Int → Option (List α)} {cmp : α → α → Option Int} {lt : α → α → Bool} {P : α → Prop} {n : Nat}
    (hF : ∀ f l x, F (f + 1) l x = Option.bind (bif (decide (x > 0)) then (idx l x fun u => idx l (IntKind.i64.wrap (x - 1)) fun v => (cmp u v).bind fun c => some (decide (c < 0))) else (some false)) (fun q =>
      bif q then (idx l (IntKind.i64.wrap (x - 1)) fun v => idx l x fun u => idx l x fun _ => idx l (IntKind.i64.wrap (x - 1)) fun _ =>
        F f (List.set (List.set l (Int.toNat x) v) (Int.toNat (IntKind.i64.wrap (x - 1))) u) (IntKind.i64.wrap (x - 1))) else (some l)))
    (hc : ∀ u v, P u → P v → ∃ c, cmp u v = some c ∧ decide (c < 0) = lt u v)
    (hG : ∀ f l x, G (f + 1) l x = bif (decide (x < (n : Int))) then (Option.bind (F 1000 l x) (fun m => G f m (IntKind.i64.wrap (x + 1)))) else (some l)) (hn : n < 1000) :
    ∀ (s ys : List α) (f : Nat), (∀ y ∈ ys, P y) → (∀ y ∈ s, P y) → ys.length + s.length = n → s.length < f → G f (ys.reverse ++ s) ((ys.length : Nat) : Int) = some ((s.foldl (fun acc x => insR lt x acc) ys).reverse) := by
  intro s
  induction s with
  | nil =>
    intro ys f _ _ hl hf
    obtain ⟨f, rfl⟩ : ∃ g, f = g + 1 := ⟨f - 1, by simp at hf; omega⟩
    rw [hG, decide_eq_false (by simp at hl; omega)]
    simp
  | cons x s ih =>
    intro ys f hP hQ hl hf
    obtain ⟨f, rfl⟩ : ∃ g, f = g + 1 := ⟨f - 1, by omega⟩
    have hx : P x := hQ x (List.mem_cons_self ..)
    simp only [List.length_cons] at hl hf
    rw [hG, dlt_t (by omega), cond_true, ins_loop hF hc ys s x 1000 hP hx (by unfold maxLen; omega) (by omega), Option.bind_some, W_succ (n := n) (by omega) (by unfold maxLen; omega)]
    have := ih (insR lt x ys) f (fun y hy => by rcases insR_mem.1 hy with rfl | h; exact hx; exact hP y h) (fun y hy => hQ y (List.mem_cons_of_mem _ hy)) (by rw [insR_len]; omega) (by omega)
    rw [insR_len] at this
    rw [this]
    rfl
theorem isort_whole {α : Type} {F G : Nat → List α → Int → Option (List α)} {cmp : α → α → Option Int} {lt : α → α → Bool} (P : α → Prop) {l : List α}
    (hF : ∀ f l x, F (f + 1) l x = Option.bind (bif (decide (x > 0)) then (idx l x fun u => idx l (IntKind.i64.wrap (x - 1)) fun v => (cmp u v).bind fun c => some (decide (c < 0))) else (some false)) (fun q =>
      bif q then (idx l (IntKind.i64.wrap (x - 1)) fun v => idx l x fun u => idx l x fun _ => idx l (IntKind.i64.wrap (x - 1)) fun _ =>
        F f (List.set (List.set l (Int.toNat x) v) (Int.toNat (IntKind.i64.wrap (x - 1))) u) (IntKind.i64.wrap (x - 1))) else (some l)))
    (hc : ∀ u v, P u → P v → ∃ c, cmp u v = some c ∧ decide (c < 0) = lt u v)
    (hG : ∀ f l' x, G (f + 1) l' x = bif (decide (x < (l.length : Int))) then (Option.bind (F 1000 l' x) (fun m => G f m (IntKind.i64.wrap (x + 1)))) else (some l')) (hn : l.length < 1000) (hP : ∀ y ∈ l, P y) :
    G (Int.toNat ((l.length : Int) - (IntKind.i64.wrap (0 + 1))) + 2) l (IntKind.i64.wrap (0 + 1)) = some ((sortB lt l).reverse) := by
  have w1 : IntKind.i64.wrap (0 + 1) = 1 := by decide
  rw [w1]
  cases l with
  | nil =>
    rw [hG]
    rfl
  | cons x s =>
    have := isort_loop hF hc hG hn s [x] (Int.toNat (((x :: s).length : Int) - 1) + 2) (fun y hy => hP y (by simp at hy; simp [hy])) (fun y hy => hP y (List.mem_cons_of_mem _ hy)) (by simp <;> omega) (by simp <;> omega)
    simp only [List.reverse_cons, List.reverse_nil, List.nil_append, List.cons_append, List.length_cons, List.length_nil] at this
    exact this
theorem sub_ok {α β : Type} {l : List α} {i j : Nat} {k : List α → Option β} (hij : i ≤ j) (hj : j ≤ l.length) : sub l (i : Int) (j : Int) k = k ((l.take j).drop i) := by
  unfold sub
  rw [grd_eq (by simp; omega)]
  rfl
theorem sub_ok0 {α β : Type} {l : List α} {j : Nat} {k : List α → Option β} (hj : j ≤ l.length) : sub l 0 (j : Int) k = k (l.take j) := sub_ok (i := 0) (Nat.zero_le _) hj
/-! loops that fold -/
theorem fold_list {α σ τ : Type} {l : List α} {F : Nat → σ → Int → Option τ} (step : σ → α → σ) (fin : σ → Option τ) (Inv : Nat → σ → Prop)
    (he : ∀ f s, Inv l.length s → F (f + 1) s (l.length : Int) = fin s)
    (hs : ∀ f s i (hi : i < l.length), Inv i s → F (f + 1) s (i : Int) = F f (step s l[i]) ((i + 1 : Nat) : Int))
    (hI : ∀ s i (hi : i < l.length), Inv i s → Inv (i + 1) (step s l[i])) {m : Nat} {s : σ} (hm : l.length < m) (h0 : Inv 0 s) :
    F m s 0 = fin (l.foldl step s) := by
  have key : ∀ k i f, i + k = l.length → k < f → ∀ s, Inv i s → F f s (i : Int) = fin ((l.drop i).foldl step s) := by
    refine up (P := fun i f => ∀ s, Inv i s → F f s (i : Int) = fin ((l.drop i).foldl step s)) (fun f s h => ?_) (fun i f hi ih s h => ?_)
    · rw [he f s h, List.drop_of_length_le (Nat.le_refl _)]; rfl
    · rw [hs f s i hi h, List.drop_eq_getElem_cons hi, List.foldl_cons, ih _ (hI s i hi h)]
  exact key l.length 0 m (by omega) hm s h0
theorem fold_range {σ τ : Type} {n : Nat} {F : Nat → σ → Int → Option τ} (step : σ → Nat → σ) (fin : σ → Option τ) (Inv : Nat → σ → Prop)
    (he : ∀ f s, Inv n s → F (f + 1) s (n : Int) = fin s)
    (hs : ∀ f s i, i < n → Inv i s → F (f + 1) s (i : Int) = F f (step s i) ((i + 1 : Nat) : Int))
    (hI : ∀ s i, i < n → Inv i s → Inv (i + 1) (step s i)) {m : Nat} {s : σ} (hm : n < m) (h0 : Inv 0 s) :
    F m s 0 = fin ((List.range n).foldl step s) := by
  have hl : (List.range n).length = n := List.length_range
  have := fold_list (l := List.range n) (F := F) step fin Inv (fun f s h => by rw [hl] at h ⊢; exact he f s h) (fun f s i hi h => by rw [List.getElem_range]; exact hs f s i (by rw [hl] at hi; exact hi) h)
    (fun s i hi h => by rw [List.getElem_range]; exact hI s i (by rw [hl] at hi; exact hi) h) (m := m) (s := s) (by rw [hl]; exact hm) h0
  exact this
theorem sortB_map {α β : Type} {lt : β → β → Bool} {g : α → β} {l : List α} : sortB lt (l.map g) = (sortB (fun x y => lt (g x) (g y)) l).map g := by
  have hi : ∀ (x : α) (ys : List α), insR lt (g x) (ys.map g) = (insR (fun x y => lt (g x) (g y)) x ys).map g := by
    intro x ys
    induction ys with
    | nil => rfl
    | cons y ys ih => rw [List.map_cons, insR, insR, ih]; cases lt (g x) (g y) <;> rfl
  unfold sortB
  rw [List.foldl_map]
  have : ∀ (l : List α) (acc : List α), l.foldl (fun acc x => insR lt (g x) acc) (acc.map g) = (l.foldl (fun acc x => insR (fun x y => lt (g x) (g y)) x acc) acc).map g := by
    intro l
    induction l with
    | nil => intro acc; rfl
    | cons x l ih => intro acc; rw [List.foldl_cons, List.foldl_cons, hi, ih]
  exact this l []
theorem sortB_snoc {α : Type} {lt : α → α → Bool} {l : List α} {x : α} : sortB lt (l ++ [x]) = insR lt x (sortB lt l) := by
  unfold sortB
  rw [List.foldl_append]
  rfl
theorem sortB_perm {α : Type} {lt : α → α → Bool} {l : List α} : (sortB lt l).Perm l := by
  have : ∀ (l acc : List α), (l.foldl (fun acc x => insR lt x acc) acc).Perm (acc ++ l) := by
    intro l
    induction l with
    | nil => intro acc; simp
    | cons x l ih =>
      intro acc
      rw [List.foldl_cons]
      refine (ih _).trans ((insR_perm.append_right l).trans ?_)
      exact List.perm_middle.symm
  simpa [sortB] using this l []
end Go.GL

namespace Go.GL
open Go Go.RowKit
section
variable {P : Program} {N : Nat} {Q : Exit → Act → World → Prop} {env : Env} {w w' w0 : World} {ops : Array Oper} {rest : List Oper}
  {d : Nat} {t ty : TypeId} {pos : String} {af : Array Edge} {L : List Nat} {As R : List HP}
  {α : Type} [GT P α]
/-- a slice held against nil -/
theorem r_sleq {x y : Operand} {xt yt e : TypeId} {a : Option Addr} {n c n' c' : Nat} (ht : slB P xt e = true) (hN : Nat.blt d N = true) (hx : ev env x = some (.slice a n c)) (hy : ev env y = some (.slice none n' c'))
    (h : rwp P N ops Q rest ((d, .bool a.isNone) :: env) w) : rwp P N ops Q (⟨some d, .binOp .eql xt x y yt, t, pos, af, none⟩ :: rest) env w :=
  r_bin hN hx hy (by simp [eqGuard]) (by
    have hu := slB_spec ht
    simp only [binOp]
    simp [Op.equal, Op.maxDepth, Lib.run_equalIn_slice_nil w 9999 xt e a n c n' c' hu]) h
theorem rdL_nilcase {B : Nat} {v : Value} {l : List α} (h : rdL P w B [v] l) : (v = .slice none 0 0 ∧ l = []) ∨ ∃ a c, v = .slice (some a) l.length c := by
  obtain ⟨u, hu, -, h1⟩ := h
  simp only [List.cons.injEq, and_true] at hu
  subst hu
  rcases h1 with h1 | ⟨a, cap, xs, rfl, -⟩
  · exact .inl h1
  · exact .inr ⟨a, cap, rfl⟩
end
/-! the library's sort of integers that the call owns -/
section
variable {P : Program} [GT P Int]
theorem odAll_ints (hod : ∀ (w : World) (cs : List Value) (x : Int) (fp : List Nat), GT.od P w cs x fp ↔ cs = [.int .i64 x] ∧ True ∧ fp = []) {w : World} : ∀ {l : List Int} {xs : List Value} {fp : List Nat},
    odAll P w xs l fp ↔ xs = l.map (Value.int .i64) ∧ fp = [] := by
  intro l
  induction l with
  | nil => intro xs fp; exact Iff.rfl
  | cons x l ih =>
    intro xs fp
    constructor
    · rintro ⟨cs, ys, f, g, rfl, rfl, h, hr⟩
      obtain ⟨rfl, -, rfl⟩ := (hod _ _ _ _).1 h
      obtain ⟨rfl, rfl⟩ := ih.1 hr
      exact ⟨rfl, rfl⟩
    · rintro ⟨rfl, rfl⟩
      exact ⟨[.int .i64 x], l.map (Value.int .i64), [], [], rfl, rfl, (hod _ _ _ _).2 ⟨rfl, trivial, rfl⟩, ih.2 ⟨rfl, rfl⟩⟩
theorem sort_own (hod : ∀ (w : World) (cs : List Value) (x : Int) (fp : List Nat), GT.od P w cs x fp ↔ cs = [.int .i64 x] ∧ True ∧ fp = []) (hsz : GT.size P Int = 1) {fn : FuncId}
    (hcall : ∀ (blk off cap : Nat) (zs : List Int) (w : World), Go.Sort.Holds (Value.int .i64) w blk off zs.toArray → blk < w.heap.size → zs.length < 4611686018427387904 →
      Calls P fn #[.slice (some ⟨blk, off, none⟩) zs.length cap] w fun e w' => e = .returned (.tuple #[]) ∧ ∃ n os, w' = Go.Sort.grow (Go.Sort.putRow (Value.int .i64) (Go.Sort.ahead w n) blk off (zs.mergeSort fun x y => decide (x ≤ y)).toArray) os)
    (hnone : ∀ (p : Option Addr) (cap : Nat) (w : World), Calls P fn #[.slice p 0 cap] w fun e w' => e = .returned (.tuple #[]) ∧ w' = w)
    {w : World} {fp : List Nat} {v : Value} {l : List Int} (hl62 : l.length < 4611686018427387904) (H : St w fp w [ownL P v l]) :
    Calls P fn #[v] w (Ret fun u w' => u = .tuple #[] ∧ St w fp w' [ownL P v (l.mergeSort fun x y => decide (x ≤ y))]) := by
  obtain ⟨f1, ho, hb⟩ := H.get (k := 0) rfl
  obtain ⟨u, xs, g, hu, hown, hall, hfp⟩ := ho
  simp only [List.cons.injEq, and_true] at hu
  subst hu
  obtain ⟨rfl, rfl⟩ := (odAll_ints hod).1 hall
  rcases hown.2 with ⟨rfl, hn⟩ | ⟨blk, cap, cur, rfl, hb0, hblk, hnc, hcm, hcs, htk⟩
  · have hl : l = [] := List.eq_nil_of_length_eq_zero hn
    subst hl
    refine Calls.mono (hnone none 0 w) fun e w' he => ?_
    obtain ⟨rfl, rfl⟩ := he
    exact ⟨rfl, by simpa using H⟩
  · rw [hsz] at hcs htk
    have htk' : cur.toList.take l.length = l.map (Value.int .i64) := by simpa using htk
    have hlt : blk < w.heap.size := (Array.getElem?_eq_some_iff.1 hblk).1
    refine Calls.mono (hcall blk 0 cap l w (Go.holds_of_blockI hblk htk') hlt hl62) fun e w' he => ?_
    obtain ⟨rfl, n, os, rfl⟩ := he
    refine ⟨rfl, ?_⟩
    have hlen : (l.mergeSort fun x y => decide (x ≤ y)).length = l.length := List.length_mergeSort _
    have hgr := Go.grownBy_sortedI (w := w) (g := blk) (n := n) (os := os) (l.mergeSort fun x y => decide (x ≤ y)).toArray
    have hnew := Go.ownsRow_sortedI (w := w) (base := 0) (n := n) (os := os) hlen (Nat.zero_le _) hblk hnc hcm hcs
    have := H.upd (k := 0) (A' := ownL P (.slice (some ⟨blk, 0, none⟩) l.length cap) (l.mergeSort fun x y => decide (x ≤ y))) rfl hgr.1 hgr.2 hgr.3 hgr.4 (fun fp0 hA hnd hlt0 => by
      obtain ⟨u2, xs2, g2, hu2, hown2, hall2, rfl⟩ := hA
      simp only [List.cons.injEq, and_true] at hu2
      subst hu2
      obtain ⟨rfl, rfl⟩ := (odAll_ints hod).1 hall2
      refine ⟨[blk], ⟨_, (l.mergeSort fun x y => decide (x ≤ y)).map (Value.int .i64), [], rfl, ?_, (odAll_ints hod).2 ⟨rfl, rfl⟩, rfl⟩, by simp, fun b hb => .inl (by simpa [Value.ownBlock] using hb), fun b hlb hnb => ?_⟩
      · rw [hsz, hlen]
        exact hnew
      · exact hgr.5 b hlb (fun e => hnb (by cases e; simp [Value.ownBlock])))
    exact this
end
end Go.GL

namespace Go.GL
open Go Go.RowKit
section
variable {P : Program} {N : Nat} {Q : Exit → Act → World → Prop} {env : Env} {w w' w0 wq : World} {ops : Array Oper} {rest : List Oper}
  {d : Nat} {t ty : TypeId} {pos : String} {af : Array Edge} {L : List Nat} {As R : List HP} {α β : Type} [GT P α] [GT P β]
theorem St.lend_at2 {off : Nat} {v u : Value} {l : List α} {i : Nat} {p : Addr} {e : α} (H : St w0 L w (ownL P v l :: R)) (ln : Lens P α β off) (hp : PO (GT.size P α) v i off p) (he : l[i]? = some e)
    (hc : w.cell? (p.add 0) = some u) (hoff : Nat.blt off (GT.size P α) = true) : ∃ fp, p.block ∉ fp ∧ St w fp w [ownL P u (ln.get e)] ∧ (∀ b ∈ fp, b ∈ L ∨ w0.heap.size ≤ b) ∧ ∀ (w' : World) (e' : List β), St w fp w' [ownL P u e'] → St w0 L w' (ownL P v (l.set i (ln.set e e')) :: R) := by
  have hoff' : off < GT.size P α := Nat.blt_eq ▸ hoff
  obtain ⟨fp, S1, hL, hback⟩ := St.frameR (As := [ownL P v l]) (R := R) H
  obtain ⟨fp1, ⟨fA, g0, ⟨v', xs, g, hvv, hown, hall, rfl⟩, rfl, rfl⟩, hn, hb⟩ := S1.sep
  simp only [List.cons.injEq, and_true] at hvv
  subst hvv
  simp only [List.append_nil] at hn hb
  obtain ⟨xs1, cs, xs2, f1, f, f2, rfl, hl1, rfl, hodE, hset⟩ := odAll_set hall he
  have hcl := GT.od_len hodE
  obtain ⟨u', h1, fe, h2, hu', hodu, rfl, hput⟩ := ln.law hodE
  have hil : i < l.length := (List.getElem?_eq_some_iff.1 he).1
  obtain ⟨gb, hgb, rfl⟩ := hp.nth
  -- the cell is what lies there
  have hcu : u' = u := by
    rcases hown.2 with ⟨rfl, hn0⟩ | ⟨b', cap, cur, rfl, -, hbk, hnc, hcm, hcs, htk⟩
    · cases hgb
    · simp only [Value.ownBlock, Option.some.injEq] at hgb
      subst hgb
      have hxl := hown.1
      simp only [List.length_append, hl1, hcl] at hxl
      have hget : cur[i * GT.size P α + off]? = some u' := by
        rw [← Array.getElem?_toList, ← List.take_append_drop (l.length * GT.size P α) cur.toList, htk]
        rw [List.append_assoc, List.append_assoc, ← hl1, List.getElem?_append_right (by omega), show xs1.length + off - xs1.length = off by omega, List.getElem?_append_left (by omega)]
        exact hu'
      have hc2 : w.cell? ⟨b', i * GT.size P α + off, none⟩ = some u' := by
        unfold World.cell?
        simp only [hbk]
        exact hget
      have hadd : (⟨b', i * GT.size P α + off, none⟩ : Addr).add 0 = ⟨b', i * GT.size P α + off, none⟩ := by simp [Addr.add]
      rw [hadd, hc2] at hc
      exact Option.some.inj hc
  subst hcu
  have hnfe : fe.Nodup := by
    have h3 := (List.nodup_append.1 hn).2.1
    have h4 := (List.nodup_append.1 (List.nodup_append.1 h3).1).2.1
    exact (List.nodup_append.1 (List.nodup_append.1 h4).1).2.1
  have hbfe : ∀ b ∈ fe, b < w.heap.size := fun b hbm => (hb b (by simp [hbm])).2
  have hnb : gb ∉ fe := by
    rw [hgb] at hn
    simp only [Option.toList_some, List.cons_append, List.nil_append, List.nodup_cons] at hn
    exact fun hm => hn.1 (by simp [hm])
  refine ⟨fe, hnb, St.lent hodu hnfe hbfe, fun b hbm => hL b ?_, fun w' e' hx => hback w' [ownL P v (l.set i (ln.set e e'))] ?_⟩
  · rcases (hb b (by simp [hbm])).1 with h3 | h3
    · exact h3
    · have := hbfe b hbm; omega
  obtain ⟨fe0, ⟨fe', g0, hodu', rfl, rfl⟩, hn', hb'⟩ := hx.sep
  simp only [List.append_nil] at hn' hb'
  have hreb : v.ownBlock.toList ++ (f1 ++ (h1 ++ fe ++ h2) ++ f2) = (v.ownBlock.toList ++ f1 ++ h1) ++ fe ++ (h2 ++ f2) := by simp
  have hreb' : v.ownBlock.toList ++ (f1 ++ (h1 ++ fe' ++ h2) ++ f2) = (v.ownBlock.toList ++ f1 ++ h1) ++ fe' ++ (h2 ++ f2) := by simp
  have hdis : ∀ b, b ∈ (v.ownBlock.toList ++ f1 ++ h1) ++ (h2 ++ f2) → b ∉ fe := by
    rw [hreb, List.nodup_append] at hn
    obtain ⟨h12, _, hd2⟩ := hn
    rw [List.nodup_append] at h12
    intro b hb1 hbf
    rcases List.mem_append.1 hb1 with h3 | h3
    · exact h12.2.2 b h3 b hbf rfl
    · exact hd2 b (List.mem_append_right _ hbf) b h3 rfl
  have hlt : ∀ b, b ∈ (v.ownBlock.toList ++ f1 ++ h1) ++ (h2 ++ f2) → b < w.heap.size := fun b hb1 => (hb b (by rw [hreb]; rcases List.mem_append.1 hb1 with h3 | h3 <;> simp only [List.mem_append] at h3 ⊢ <;> grind)).2
  have hsame : ∀ b, b ∈ (v.ownBlock.toList ++ f1 ++ h1) ++ (h2 ++ f2) → w'.heap[b]? = w.heap[b]? := fun b hb1 => hx.block b (hlt b hb1) (hdis b hb1)
  refine ⟨hx.os, hx.tape, hx.output, hx.size, fun b hb0 hbf => hx.block b hb0 (fun hbe => hbf ?_), _, ⟨v.ownBlock.toList ++ (f1 ++ (h1 ++ fe' ++ h2) ++ f2), [], ⟨v, xs1 ++ cs ++ xs2, f1 ++ (h1 ++ fe' ++ h2) ++ f2, rfl, ?_, ?_, rfl⟩, rfl, rfl⟩, ?_, ?_⟩
  · rcases (hb b (by simp [hbe])).1 with h3 | h3
    · exact h3
    · omega
  · rw [List.length_set]; exact ownsRow_keep (fun b hbm => hsame b (by simp [hbm])) hown
  · exact hset w' cs _ _ (fun b hbm => hsame b (by rcases List.mem_append.1 hbm with h3 | h3 <;> simp [h3])) (hput w' e' fe' (fun b hbm => hsame b (by rcases List.mem_append.1 hbm with h3 | h3 <;> simp [h3])) hodu')
  · rw [List.append_nil, hreb']
    rw [hreb] at hn
    exact nodup_mid hn hn' hlt (fun x hx1 => (hb' x hx1).1)
  · intro b hbm
    rw [List.append_nil, hreb'] at hbm
    rcases List.mem_append.1 hbm with h3 | h3
    · rcases List.mem_append.1 h3 with h4 | h4
      · have := hb b (by rw [hreb]; simp only [List.mem_append] at h4 ⊢; grind)
        exact ⟨this.1, Nat.lt_of_lt_of_le this.2 hx.size⟩
      · refine ⟨?_, (hb' b h4).2⟩
        rcases (hb' b h4).1 with h5 | h5
        · exact (hb b (by simp [h5])).1
        · exact .inr h5
    · have := hb b (by rw [hreb]; simp only [List.mem_append] at h3 ⊢; grind)
      exact ⟨this.1, Nat.lt_of_lt_of_le this.2 hx.size⟩
/-- a store into an inner slice; the slice can be read again behind it -/
theorem r_sto_in2 {off : Nat} {x y : Operand} {v u val : Value} {i j : Nat} {l : List α} {e : α} {b b' : β} {p q : Addr} {vs : List Value} (H : St w0 L w (ownL P v l :: R)) (ln : Lens P α β off) (hp : PO (GT.size P α) v i off p) (he : l[i]? = some e)
    (hc : w.cell? (p.add 0) = some u) (hoff : Nat.blt off (GT.size P α) = true) (hix : IX (GT.size P β) u j q) (hj : (ln.get e)[j]? = some b)
    (hx : ev env x = some (.pointer (some q))) (hy : ev env y = some val) (hv : val.cells.toList = vs) {agg : Bool} (hsz : tiB P t vs.length agg = true) (h1 : ∀ u ∈ vs, u.oneCell' = true) (hin : Nat.ble (0 + vs.length) (GT.size P β) = true)
    (hod : ∀ (w : World) cs f, GT.od P w cs b f → GT.od P w (splice cs 0 vs) b' f)
    (h : ∀ w', St w0 L w' (ownL P v (l.set i (ln.set e ((ln.get e).set j b'))) :: R) → w'.cell? (p.add 0) = some u → rdL P w' w'.heap.size [u] ((ln.get e).set j b') → (l.set i (ln.set e ((ln.get e).set j b')))[i]? = some (ln.set e ((ln.get e).set j b')) → rwp P N ops Q rest env w') :
    rwp P N ops Q (⟨none, .store t x y, ty, pos, af, none⟩ :: rest) env w := by
  obtain ⟨fp, hnb, Hl, -, hback⟩ := St.lend_at2 H ln hp he hc hoff
  have hil : i < l.length := (List.getElem?_eq_some_iff.1 he).1
  refine r_sto (k := 0) Hl rfl (PO_of_IX Hl hix) hj hx hy hv hsz h1 hin hod (fun w' _ H' => h w' (hback w' _ H') ?_ (St.rdl (k := 0) H' rfl) (by simp [hil]))
  have hcb : (p.add 0).block = p.block := block_add p 0
  have hlt : p.block < w.heap.size := by
    rw [← hcb]
    unfold World.cell? at hc
    by_cases hh : (p.add 0).block < w.heap.size
    · exact hh
    · rw [Array.getElem?_eq_none (by omega)] at hc
      simp at hc
  rw [← hc]
  unfold World.cell?
  rw [hcb, H'.block p.block hlt hnb]
end
end Go.GL

namespace Go.GL
open Go
/-! the words at the head of the program's record -/
theorem words_one : ∀ (w r : List Char), (∀ c ∈ w, c ≠ Char.ofNat 32) → wordsSigns (w ++ Char.ofNat 32 :: r) = w :: wordsSigns r := by
  intro w
  induction w with
  | nil => intro r _; rfl
  | cons c w ih =>
    intro r h
    have hc := h c (List.mem_cons_self ..)
    have hi := ih r fun d hd => h d (List.mem_cons_of_mem _ hd)
    rw [List.cons_append, wordsSigns]
    · rw [hi]
    · exact fun e => hc e
theorem head_words {L w1 w2 w3 r : List Char} (hL : L = w1 ++ Char.ofNat 32 :: (w2 ++ Char.ofNat 32 :: (w3 ++ Char.ofNat 32 :: r))) (h1 : ∀ c ∈ w1, c ≠ Char.ofNat 32) (h2 : ∀ c ∈ w2, c ≠ Char.ofNat 32) (h3 : ∀ c ∈ w3, c ≠ Char.ofNat 32)
    (hm : ((w1 == "harness".toList || w1 == "ownmain".toList) && isSumSigns w2) = true) : behindMainWord (wordsSigns L) = w3 :: wordsSigns r := by
  subst hL
  rw [words_one w1 _ h1, words_one w2 _ h2, words_one w3 _ h3, behindMainWord, if_pos hm]
/-- The first word is `cut`: no lift is stripped. -/
theorem strip_none (w : List Char) (R : List (List Char)) : ∀ os : List String, (os.all fun o => !(w == o.toList)) = true → stripLifts os (w :: R) = ([], w :: R) := by
  intro os
  induction os with
  | nil => intro _; rfl
  | cons o os ih =>
    intro h
    rw [List.all_cons, Bool.and_eq_true] at h
    have h1 : (w == o.toList) = false := by simpa using h.1
    rw [stripLifts, h1]
    exact ih h.2
theorem cut_none : (liftWords.all fun o => !("cut".toList == o.toList)) = true := by kernel_rfl
theorem cut_head {P : Program} {R : List (List Char)} (hW : behindMainWord (wordsSigns P.initOrder.toList) = "cut".toList :: R) : P.headLifts = [] := by
  unfold Program.headLifts
  rw [hW, strip_none _ R _ cut_none]
  dsimp only
  split <;> rfl
theorem cut_final {P : Program} {R : List (List Char)} (hW : behindMainWord (wordsSigns P.initOrder.toList) = "cut".toList :: R) : P.liftsFinal = false := by
  unfold Program.liftsFinal
  rw [cut_head hW, hW]
  dsimp only
  have h : (some "cut".toList == some "carried".toList) = false := by kernel_rfl
  rw [List.head?_cons, h]
  rfl
theorem cut_make {P : Program} {R : List (List Char)} (hW : behindMainWord (wordsSigns P.initOrder.toList) = "cut".toList :: R) : P.make = some .cut := by
  unfold Program.make
  rw [hW]
  have h1 : ("cut".toList == "gc".toList || "cut".toList == "spec".toList) = false := by kernel_rfl
  have h2 : ("cut".toList == "cut".toList) = true := by kernel_rfl
  simp only [h1, h2, Bool.true_or, if_true]
  rfl
theorem cut_enter {P : Program} {R : List (List Char)} (hW : behindMainWord (wordsSigns P.initOrder.toList) = "cut".toList :: R) (h1 : P.laysLater = false) (h2 : P.bearsReflect = false) (h3 : P.doorRows.isEmpty = true) : P.mayEnter = true := by
  have h3' : P.doorRows = [] := by simpa using h3
  unfold Program.mayEnter
  rw [hW]
  have h2' : (some "cut".toList == some "cut".toList) = true := by kernel_rfl
  simp only [strip_none _ R _ cut_none, List.head?_cons, h1, h2, h2', Program.doorFits, h3', Bool.not_false, Bool.or_true, Bool.and_true, List.any_nil, Bool.false_and, Bool.not_false, List.isEmpty_nil, Bool.true_or, List.contains_nil]
end Go.GL

namespace Go.GL
open Go Go.RowKit
section
variable {P : Program} {N : Nat} {Q : Exit → Act → World → Prop} {env : Env} {w w' w0 wq : World} {ops : Array Oper} {rest : List Oper}
  {d : Nat} {t ty : TypeId} {pos : String} {af : Array Edge} {gd : Option (Nat × Bool)} {L : List Nat} {As R : List HP} {α : Type} [GT P α]
/-! ## 36. Slices cell by cell: cut, copied, cleared in place -/
def evI (env : Env) : Option Operand → Nat → Nat → Prop
  | none, dflt, v => v = dflt
  | some y, _, v => ∃ k : IntKind, ev env y = some (.int k (v : Int))
def cutA (b c i size : Nat) : Addr := if c = i then ⟨b, 0, none⟩ else ⟨b, i * size, none⟩
theorem cutA_ne {b c i size : Nat} (h : c ≠ i) : cutA b c i size = ⟨b, i * size, none⟩ := if_neg h
theorem cutA_zero {b c size : Nat} : cutA b c 0 size = ⟨b, 0, none⟩ := by unfold cutA; split <;> simp
theorem add_lit0 (b n : Nat) : (⟨b, 0, none⟩ : Addr).add n = ⟨b, n, none⟩ := by unfold Addr.add; split <;> simp_all
theorem x_cut (α : Type) [GT P α] {x : Operand} {lo hi : Option Operand} {b n c i j : Nat} (ht : slB P t (GT.tid P α) = true) (hx : ev env x = some (.slice (some ⟨b, 0, none⟩) n c)) (hlo : evI env lo 0 i) (hhi : evI env hi n j) (h : i ≤ j ∧ j ≤ c) :
    X P N env w ⟨some d, .slice t x lo hi none, ty, pos, af, gd⟩ (.slice (some (cutA b c i (GT.size P α))) (j - i) (c - i)) := by
  intro a ha
  obtain ⟨ie, u, hie, hs, -, -⟩ := tiB_spec (GT.ti (P := P) (α := α))
  have e : (if c = i then (some ⟨b, 0, none⟩ : Option Addr) else some ((⟨b, 0, none⟩ : Addr).add (i * GT.size P α))) = some (cutA b c i (GT.size P α)) := by
    unfold cutA; rw [add_lit0]; split <;> rfl
  cases lo with
  | none =>
    cases hlo
    cases hi with
    | none => cases hhi; simp [execOp, ha.eval hx, Instr.sliceAt, Instr.slice, run_underlying (slB_spec ht), Instr.sliceBounds, run_sizeOf hie, hs, ← e]
    | some z => obtain ⟨k, hz⟩ := hhi; simp [execOp, ha.eval hx, ha.eval hz, Instr.sliceAt, Instr.slice, run_underlying (slB_spec ht), Instr.sliceBounds, Instr.sliceBound, asIntOf, h.2, run_sizeOf hie, hs, ← e]
  | some y =>
    obtain ⟨k, hy⟩ := hlo
    cases hi with
    | none => cases hhi; simp [execOp, ha.eval hx, ha.eval hy, Instr.sliceAt, Instr.slice, run_underlying (slB_spec ht), Instr.sliceBounds, Instr.sliceBound, asIntOf, h.1, run_sizeOf hie, hs, ← e]
    | some z => obtain ⟨k', hz⟩ := hhi; simp [execOp, ha.eval hx, ha.eval hy, ha.eval hz, Instr.sliceAt, Instr.slice, run_underlying (slB_spec ht), Instr.sliceBounds, Instr.sliceBound, asIntOf, h.1, h.2, run_sizeOf hie, hs, ← e]
theorem x_cut0 (α : Type) [GT P α] {x : Operand} {hi : Option Operand} {b n c j : Nat} (ht : slB P t (GT.tid P α) = true) (hx : ev env x = some (.slice (some ⟨b, 0, none⟩) n c)) (hhi : evI env hi n j) (h : j ≤ c) :
    X P N env w ⟨some d, .slice t x none hi none, ty, pos, af, gd⟩ (.slice (some ⟨b, 0, none⟩) j c) := by
  have := x_cut (d := d) (ty := ty) (pos := pos) (af := af) (gd := gd) (N := N) (w := w) α (lo := none) (i := 0) ht hx rfl hhi ⟨Nat.zero_le _, h⟩
  rw [cutA_zero] at this
  exact this
theorem cut_src {b c n j size : Nat} {cs : List Value} {T : TypeId} (hb : w.heap[b]? = some (.cells cs.toArray T (0, 0))) (hl : n * size ≤ cs.length) (hnc : n ≤ c) {k : Nat} {u : Value} (hu : ((cs.take (n * size)).drop (j * size))[k]? = some u) : w.cell? ((cutA b c j size).add k) = some u := by
  have hk := (List.getElem?_eq_some_iff.1 hu).1
  rw [List.length_drop, List.length_take] at hk
  have hcj : c ≠ j := by
    rintro rfl
    have := Nat.mul_le_mul_right size hnc
    omega
  rw [cutA_ne hcj]
  have e : (⟨b, j * size, none⟩ : Addr).add k = ⟨b, j * size + k, none⟩ := by
    unfold Addr.add; split <;> simp_all
  rw [e]
  rw [List.getElem?_drop, List.getElem?_take_of_lt (by omega)] at hu
  simp [World.cell?, hb, hu]
theorem x_cut3 (α : Type) [GT P α] {x y z u : Operand} {p : Option Addr} {n c i j m : Nat} {k1 k2 k3 : IntKind} (ht : slB P t (GT.tid P α) = true) (hx : ev env x = some (.slice p n c)) (hy : ev env y = some (.int k1 (i : Int))) (hz : ev env z = some (.int k2 (j : Int))) (hu : ev env u = some (.int k3 (m : Int))) (h : i ≤ j ∧ j ≤ m ∧ m ≤ c) :
    X P N env w ⟨some d, .slice t x (some y) (some z) (some u), ty, pos, af, gd⟩ (.slice (if m = i then p else p.map (·.add (i * GT.size P α))) (j - i) (m - i)) := by
  intro a ha
  obtain ⟨ie, q, hie, hs, -, -⟩ := tiB_spec (GT.ti (P := P) (α := α))
  simp [execOp, ha.eval hx, ha.eval hy, ha.eval hz, ha.eval hu, Instr.sliceAt, Instr.slice, run_underlying (slB_spec ht), Instr.sliceBounds, Instr.sliceBound, asIntOf, h.1, h.2.1, h.2.2, run_sizeOf hie, hs]
theorem r_x {o : Oper} {v : Value} (hd : o.dst = some d) (hg : o.guard = none) (hN : Nat.blt d N = true) (hX : X P N env w o v) (h : rwp P N ops Q rest ((d, v) :: env) w) : rwp P N ops Q (o :: rest) env w :=
  r_val hd hg hN (fun a ha => hX a ha) h
theorem r_cap {x : Operand} {xt : TypeId} {e : TypeId} {p : Option Addr} {n c : Nat} (ht : slB P xt e = true) (hN : Nat.blt d N = true) (hx : ev env x = some (.slice p n c)) (h : rwp P N ops Q rest ((d, .int .i64 c) :: env) w) :
    rwp P N ops Q (⟨some d, .call { callee := .builtin .cap, args := #[x], argTypes := #[xt] }, ty, pos, af, none⟩ :: rest) env w :=
  r_val rfl rfl hN (fun a ha => by simp [execOp, resolve, invoke, builtin, ha.eval hx, Builtin.cap_, run_underlying (slB_spec ht), goInt]) h
theorem r_len_raw {x : Operand} {xt e : TypeId} {p : Option Addr} {n c : Nat} (ht : slB P xt e = true) (hN : Nat.blt d N = true) (hx : ev env x = some (.slice p n c)) (h : rwp P N ops Q rest ((d, .int .i64 n) :: env) w) :
    rwp P N ops Q (⟨some d, .call { callee := .builtin .len, args := #[x], argTypes := #[xt] }, ty, pos, af, none⟩ :: rest) env w := r_len (slB_spec ht) hN hx h
/-! the block -/
theorem St.setRow {b : Nat} {T : TypeId} {cs cs' : List Value} (H : St w0 L w (blk b T cs :: R)) : St w0 L (w.setRow b cs'.toArray) (blk b T cs' :: R) := by
  obtain ⟨fp, ⟨rfl, hb⟩, hn, hlt, hclose⟩ := H.open_ (k := 0) rfl
  exact hclose _ (blk b T cs') rfl rfl rfl (by simp [World.setRow]) (fun k _ hk => setRow_other w b k _ (fun e => hk (by simp [e]))) ⟨[b], ⟨rfl, setRow_heap w b _ _ T _ hb⟩, by simp, fun x hx => .inl hx⟩
theorem St.heap {b : Nat} {T : TypeId} {cs : List Value} (H : St w0 L w (blk b T cs :: R)) : w.heap[b]? = some (.cells cs.toArray T (0, 0)) := by
  obtain ⟨fp, ⟨rfl, hb⟩, -⟩ := H.open_ (k := 0) rfl
  exact hb
theorem St.two_ne {b c : Nat} {T U : TypeId} {cs ds : List Value} (H : St w0 L w (blk b T cs :: blk c U ds :: R)) : b ≠ c := by
  obtain ⟨fp, ⟨f, g, ⟨rfl, -⟩, ⟨f2, g2, ⟨rfl, -⟩, -, rfl⟩, rfl⟩, hn, -⟩ := H.sep
  intro e
  simp [e] at hn
theorem flat_od [Flat P α] {l : List α} {xs : List Value} {fp : List Nat} (h : odAll P w xs l fp) (hb : ∀ b ∈ fp, b < w.heap.size) (w' : World) : odAll P w' xs l [] :=
  odAll_keep (w := w) (fun b hb => by cases hb) (rdAll_od (odAll_rd h hb))
theorem St.open_flat [Flat P α] {v : Value} {l : List α} (H : St w0 L w (ownL P v l :: R)) : (v = .slice none 0 0 ∧ l = []) ∨ ∃ b cap cs, v = .slice (some ⟨b, 0, none⟩) l.length cap ∧ l.length ≤ cap ∧ cap ≤ maxLen ∧ cs.length = cap * GT.size P α ∧
    (∀ w', odAll P w' (cs.take (l.length * GT.size P α)) l []) ∧ St w0 L w (blk b (GT.tid P α) cs :: R) := by
  obtain ⟨fp, ho, hn, hlt, hclose⟩ := H.open_ (k := 0) rfl
  obtain ⟨u, xs, g, hu, hown, hall, rfl⟩ := ho
  simp only [List.cons.injEq, and_true] at hu
  subst hu
  rcases hown.2 with ⟨rfl, hn0⟩ | ⟨b, cap, cur, rfl, -, hbk, hnc, hcm, hsz, htk⟩
  · exact .inl ⟨rfl, List.eq_nil_of_length_eq_zero hn0⟩
  · refine .inr ⟨b, cap, cur.toList, rfl, hnc, hcm, by simpa using hsz, fun w' => ?_, ?_⟩
    · rw [htk]; exact flat_od hall (fun x hx => hlt x (List.mem_append_right _ hx)) w'
    · exact hclose w (blk b (GT.tid P α) cur.toList) rfl rfl rfl (Nat.le_refl _) (fun _ _ _ => rfl) ⟨[b], ⟨rfl, by simpa using hbk⟩, by simp, fun x hx => .inl (List.mem_append_left _ (by simpa [Value.ownBlock] using hx))⟩
theorem St.close_flat {b cap : Nat} {cs : List Value} {l : List α} (H : St w0 L w (blk b (GT.tid P α) cs :: R)) (hl : l.length ≤ cap) (hm : cap ≤ maxLen) (hc : cs.length = cap * GT.size P α) (hod : ∀ w', odAll P w' (cs.take (l.length * GT.size P α)) l []) :
    St w0 L w (ownL P (.slice (some ⟨b, 0, none⟩) l.length cap) l :: R) := by
  obtain ⟨fp, ⟨rfl, hb⟩, hn, hlt, hclose⟩ := H.open_ (k := 0) rfl
  refine hclose w (ownL P (.slice (some ⟨b, 0, none⟩) l.length cap) l) rfl rfl rfl (Nat.le_refl _) (fun _ _ _ => rfl) ⟨[b], ⟨_, cs.take (l.length * GT.size P α), [], rfl, ?_, hod w, by simp [Value.ownBlock]⟩, by simp, fun x hx => .inl hx⟩
  exact ⟨odAll_len (hod w), .inr ⟨b, cap, cs.toArray, rfl, Nat.zero_le _, hb, hl, hm, by simpa using hc, by simp⟩⟩
/-! what the built-in functions do to the block -/
theorem zc_one {z : Array Value} {n : Nat} (h : ∀ u ∈ z.toList, u.oneCell' = true) : ∀ u ∈ (Builtin.zeroCells z n).toList, u.oneCell' = true := by
  intro u hu
  rw [Array.mem_toList_iff, Array.mem_iff_getElem] at hu
  obtain ⟨i, hi, rfl⟩ := hu
  have hs : (Builtin.zeroCells z n).size = n * z.size := size_zeroCells z n
  have hz : 0 < z.size := by
    rcases Nat.eq_zero_or_pos z.size with h0 | h0
    · rw [hs, h0] at hi; simp at hi
    · exact h0
  simp only [Builtin.zeroCells, Array.getElem_map, Array.getElem_range]
  rw [getElem!_pos z _ (Nat.mod_lt _ hz)]
  exact h _ (by simp)
theorem gt_zero_one : ∀ u ∈ GT.zero P α, u.oneCell' = true := GT.rd_one (GT.od_rd (B := 0) (GT.od_zero (P := P) (α := α) default) (fun _ h => by cases h))
theorem run_clear_row {e : TypeId} {z : Value} {g o n c : Nat} {cur : Array Value} {T : TypeId} (hu : P.underlying t = some (.slice e)) (hz : (zeroValue e).run P w = .ok z w) (hn : 0 < n) (hg : w.heap[g]? = some (.cells cur T (0, 0))) (hfit : o + n * z.cells.size ≤ cur.size) (h1 : ∀ u ∈ z.cells.toList, u.oneCell' = true) :
    (Builtin.clear_ #[t] ty #[.slice (some ⟨g, o, none⟩) n c]).run P w = .ok (.tuple #[]) (w.setRow g (cur.toList.take o ++ (Builtin.zeroCells z.cells n).toList ++ cur.toList.drop (o + (Builtin.zeroCells z.cells n).toList.length)).toArray) := by
  have hsz : (Builtin.zeroCells z.cells n).toList.length = n * z.cells.size := by simp [size_zeroCells]
  have hst := run_storeCells_at P g o T (Builtin.zeroCells z.cells n).toList 0 cur w hg (by rw [hsz]; omega) (zc_one h1)
  simp only [Nat.add_zero] at hst
  obtain ⟨m, rfl⟩ : ∃ m, n = m + 1 := ⟨n - 1, by omega⟩
  simp [Builtin.clear_, run_underlying hu, hz] at hst ⊢
  simp [hst]
theorem run_copy_rows {dT sT : TypeId} {e : TypeId} {size g o dl dc k : Nat} {A : Addr} {sl sc : Nat} {cur : Array Value} {T : TypeId} {cs : List Value} (hu : P.underlying dT = some (.slice e)) (hs : (sizeOf e).run P w = .ok size w) (hg : w.heap[g]? = some (.cells cur T (0, 0))) (hk : Nat.min sl dl = k) (hn : cs.length = k * size)
    (hsrc : ∀ j v, cs[j]? = some v → w.cell? (A.add j) = some v) (hfit : o + cs.length ≤ cur.size) (h1 : ∀ v ∈ cs, v.oneCell' = true) :
    (Builtin.copy_ #[dT, sT] ty #[.slice (some ⟨g, o, none⟩) dl dc, .slice (some A) sl sc]).run P w = .ok (goInt k) (w.setRow g (cur.toList.take o ++ cs ++ cur.toList.drop (o + cs.length)).toArray) := by
  have hl := run_firstCells_some (P := P) w size k A sl sc cs hn hsrc
  have hst := run_storeCells_at P g o T cs 0 cur w hg (by simpa using hfit) h1
  simp only [Nat.add_zero] at hst
  simp [Builtin.copy_, run_underlying hu, Builtin.lenOf, hs, hk, hl, hst]
theorem r_valn {o : Oper} {v : Value} (hd : o.dst = none) (hg : o.guard = none)
    (hx : ∀ a, Rel N env a → (execOp a.eval o).run P w = .ok (.value v) w') (h : rwp P N ops Q rest env w') : rwp P N ops Q (o :: rest) env w := by
  intro a ha
  refine wpList_plain hg fun K hK => ?_
  unfold Oper.wp
  rw [hx a ha]
  simp only [Oper.upon, hd]
  exact hK _ _ (h _ ha)
theorem nmin {a b k : Nat} (h1 : k ≤ a) (h2 : k ≤ b) (h3 : k = a ∨ k = b) : Nat.min a b = k := by
  show min a b = k
  omega
theorem r_clear_raw {x : Operand} {b o n c : Nat} {cs : List Value} (α : Type) [GT P α] (ht : slB P t (GT.tid P α) = true) (H : St w0 L w (blk b (GT.tid P α) cs :: R)) (hx : ev env x = some (.slice (some ⟨b, o, none⟩) n c)) (hn : 0 < n) (hfit : o + n * GT.size P α ≤ cs.length)
    (h : ∀ w' vs, St w0 L w' (blk b (GT.tid P α) (cs.take o ++ vs ++ cs.drop (o + vs.length)) :: R) → vs.length = n * GT.size P α → rwp P N ops Q rest env w') :
    rwp P N ops Q (⟨none, .call { callee := .builtin .clear, args := #[x], argTypes := #[t] }, ty, pos, af, none⟩ :: rest) env w := by
  obtain ⟨i, z, hi, hz, hsz, hby, hzc⟩ := info_parts' (P := P) (α := α)
  have hzs : z.cells.size = GT.size P α := by rw [← zero_len (P := P) (α := α), ← hzc]; simp
  have hrun := run_clear_row (P := P) (t := t) (ty := ty) (w := w) (c := c) (slB_spec ht) (z := z) (by simp [zeroValue, typeInfo, hi, hz]) hn H.heap (o := o) (by rw [hzs]; simpa using hfit) (by rw [hzc]; exact gt_zero_one)
  exact r_valn rfl rfl (fun a ha => by simp only at hrun; simp [execOp, resolve, invoke, builtin, ha.eval hx, hrun]; rfl) (h _ (Builtin.zeroCells z.cells n).toList (St.setRow H) (by simp [size_zeroCells, hzs]))
theorem r_copy_raw {x y : Operand} {t' : TypeId} {b o dl dc k sl sc : Nat} {A : Addr} {cs news : List Value} (α : Type) [GT P α] (ht : slB P t (GT.tid P α) = true) (hN : Nat.blt d N = true) (H : St w0 L w (blk b (GT.tid P α) cs :: R)) (hx : ev env x = some (.slice (some ⟨b, o, none⟩) dl dc)) (hy : ev env y = some (.slice (some A) sl sc)) (hk : Nat.min sl dl = k) (hnl : news.length = k * GT.size P α)
    (hsrc : ∀ j v, news[j]? = some v → w.cell? (A.add j) = some v) (hfit : o + news.length ≤ cs.length) (h1 : ∀ v ∈ news, v.oneCell' = true)
    (h : ∀ w', St w0 L w' (blk b (GT.tid P α) (cs.take o ++ news ++ cs.drop (o + news.length)) :: R) → rwp P N ops Q rest ((d, .int .i64 k) :: env) w') :
    rwp P N ops Q (⟨some d, .call { callee := .builtin .copy, args := #[x, y], argTypes := #[t, t'] }, ty, pos, af, none⟩ :: rest) env w := by
  obtain ⟨ie, u, hie, hs, -, -⟩ := tiB_spec (GT.ti (P := P) (α := α))
  have hrun := run_copy_rows (P := P) (ty := ty) (w := w) (sT := t') (dc := dc) (sc := sc) (slB_spec ht) (size := GT.size P α) (by rw [run_sizeOf hie, hs]) H.heap hk hnl hsrc (o := o) (by simpa using hfit) h1
  exact r_val rfl rfl hN (fun a ha => by simp [execOp, resolve, invoke, builtin, ha.eval hx, ha.eval hy, hrun, goInt]) (h _ (St.setRow H))
theorem r_app_raw {x y : Operand} {b n c m mc : Nat} {A : Addr} {cs news : List Value} (α : Type) [GT P α] (ht : slB P t (GT.tid P α) = true) (hN : Nat.blt d N = true) (H : St w0 L w (blk b (GT.tid P α) cs :: R)) (hx : ev env x = some (.slice (some ⟨b, 0, none⟩) n c)) (hy : ev env y = some (.slice (some A) m mc)) (hroom : n + m ≤ c) (hnl : news.length = m * GT.size P α)
    (hsrc : ∀ j v, news[j]? = some v → w.cell? (A.add j) = some v) (hfit : n * GT.size P α + news.length ≤ cs.length) (h1 : ∀ v ∈ news, v.oneCell' = true)
    (h : ∀ w', St w0 L w' (blk b (GT.tid P α) (cs.take (n * GT.size P α) ++ news ++ cs.drop (n * GT.size P α + news.length)) :: R) → rwp P N ops Q rest ((d, .slice (some ⟨b, 0, none⟩) (n + m) c) :: env) w') :
    rwp P N ops Q (⟨some d, .call { callee := .builtin .append, args := #[x, y], argTypes := #[t, t] }, ty, pos, af, none⟩ :: rest) env w := by
  obtain ⟨i, z, hi, hz, hsz, hby, hzc⟩ := info_parts' (P := P) (α := α)
  have hrun := run_append_room (P := P) w t ty (GT.tid P α) i (slB_spec ht) hi b n c cs.toArray H.heap A m mc news (by rw [hsz]; exact hnl) hsrc h1 hroom (by rw [hsz]; simpa using hfit)
  rw [hsz] at hrun
  exact r_val rfl rfl hN (fun a ha => run_exec_append (ha.eval hx) (ha.eval hy) hrun) (h _ (St.setRow H))
/-- append(s[:i], make([]T, k)...) beyond the room: a new block -/
theorem r_grow_zeros {x y : Operand} {tn : TypeId} {kn kq : IntKind} {b n c k : Nat} {cs : List Value} (α : Type) [GT P α] (ht : slB P t (GT.tid P α) = true) (htn : P.underlying tn = some (.int kn)) (hsm : smB P α = true) (hN : Nat.blt d N = true) (H : St w0 L w (blk b (GT.tid P α) cs :: R))
    (hx : ev env x = some (.slice (some ⟨b, 0, none⟩) n c)) (hy : ev env y = some (.int kq (k : Int))) (hk : 0 < k) (hg : c < n + k) (hs : n + k ≤ 200) (hcs : n * GT.size P α ≤ cs.length)
    (h : ∀ w' b' c' zs, St w0 L w' (blk b' (GT.tid P α) (cs.take (n * GT.size P α) ++ zs) :: blk b (GT.tid P α) cs :: R) → n + k ≤ c' → c' ≤ maxLen → zs.length = (c' - n) * GT.size P α → rwp P N ops Q rest ((d, .slice (some ⟨b', 0, none⟩) (n + k) c') :: env) w') :
    rwp P N ops Q (⟨some d, .call { callee := .builtin .append, args := #[x, y], argTypes := #[t, tn] }, ty, pos, af, none⟩ :: rest) env w := by
  obtain ⟨i, z, hi, hz, hsz, hby, hzc⟩ := info_parts' (P := P) (α := α)
  have hzs : z.cells.size = GT.size P α := by rw [← zero_len (P := P) (α := α), ← hzc]; simp
  have hb128 : GT.bytes P α ≤ 128 := by unfold smB at hsm; simpa using hsm
  have hb : w.heap[b]? = some (.cells cs.toArray (GT.tid P α) (0, 0)) := H.heap
  have hold : (Builtin.firstCells i.size n (.slice (some ⟨b, 0, none⟩) n c)).run P w.drew = .ok (cs.take (n * GT.size P α)).toArray w.drew := by
    refine run_firstCells_some (P := P) w.drew i.size n _ n c _ (by rw [hsz, List.length_take]; omega) (fun j u hu => ?_)
    rw [add_lit0]
    have hjl : j < n * GT.size P α := by
      have := (List.getElem?_eq_some_iff.1 hu).1
      rw [List.length_take] at this; omega
    rw [List.getElem?_take_of_lt hjl] at hu
    show w.cell? ⟨b, j, none⟩ = some u
    simp [World.cell?, hb, hu]
  have hcap : Builtin.nextslicecap (n + k) c ≤ 400 := by
    unfold Builtin.nextslicecap
    split
    · omega
    · split <;> omega
  have hfit : Builtin.nextslicecap (n + k) c * i.bytes ≤ 281474976710656 := by
    rw [hby]
    exact Nat.le_trans (Nat.mul_le_mul hcap hb128) (by decide)
  have h48 : k * i.bytes ≤ 281474976710656 := by
    rw [hby]
    exact Nat.le_trans (Nat.mul_le_mul (show k ≤ 400 by omega) hb128) (by decide)
  have hrun := Lib.run_append_grow_zeros (P := P) w t tn ty (GT.tid P α) i z kq kn (slB_spec ht) htn hi hz (some ⟨b, 0, none⟩) n c _ hold k hk (by rw [hsz]; exact GT.pos) hg (by omega) h48 hfit
  have hge := grownCap_ge w (n + k) c (GT.tid P α)
  have hle := grownCap_le_maxLen w (n + k) c (GT.tid P α) (by unfold maxLen; omega)
  refine r_val rfl rfl hN (fun a ha => by simp [execOp, resolve, invoke, builtin, ha.eval hx, ha.eval hy, hrun]; rfl) (h _ w.heap.size (grownCap w (n + k) c (GT.tid P α)) ((Builtin.zeroCells z.cells k).toList ++ (Builtin.zeroCells z.cells (grownCap w (n + k) c (GT.tid P α) - (n + k))).toList) ?_ hge hle ?_)
  · have H1 : St w0 L w.drew (blk b (GT.tid P α) cs :: R) := St.grow H ⟨rfl, rfl, rfl, Nat.le_refl _, fun _ _ => rfl⟩
    have H2 := St.ext H1 (st_alloc w.drew (GT.tid P α) (cs.take (n * GT.size P α) ++ ((Builtin.zeroCells z.cells k).toList ++ (Builtin.zeroCells z.cells (grownCap w (n + k) c (GT.tid P α) - (n + k))).toList)))
    have H3 := St.front H2 (blk b (GT.tid P α) cs :: R).length List.getElem?_concat_length
    rw [List.eraseIdx_append_of_length_le (Nat.le_refl _)] at H3
    have ea : (cs.take (n * GT.size P α)).toArray ++ Builtin.zeroCells z.cells k ++ Builtin.zeroCells z.cells (grownCap w (n + k) c (GT.tid P α) - (n + k)) = (cs.take (n * GT.size P α) ++ ((Builtin.zeroCells z.cells k).toList ++ (Builtin.zeroCells z.cells (grownCap w (n + k) c (GT.tid P α) - (n + k))).toList)).toArray := Array.ext' (by simp)
    rw [← Array.append_assoc, ea]
    simpa using H3
  · simp only [List.length_append, Array.length_toList, size_zeroCells, hzs]
    rw [← Nat.add_mul]
    congr 1
    omega
/-- slices.overlaps of two blocks -/
theorem r_overlaps {f : FuncId} {fn : Func} {x y : Operand} {ts : Array TypeId} {tR : TypeId} {bA oA la ca bB oB lb cb : Nat} {cA cB : List Value} {U : TypeId} (α : Type) [GT P α] (ht : slB P t (GT.tid P α) = true) (hN : Nat.blt d N = true) (hf : P.funcs[f]? = some fn) (hname : (fn.name == "runtime.NumGoroutine") = false) (hbn : fn.body.isNone = true) (hnx : Extern.findNext fn = none) (hfi : Extern.find fn = some (Extern.SlicesOverlaps.overlaps #[t, t] #[tR]))
    (H : St w0 L w (blk bB (GT.tid P α) cB :: blk bA U cA :: R)) (hcB : cB ≠ [])
    (hx : ev env x = some (.slice (some ⟨bA, oA, none⟩) la ca)) (hy : ev env y = some (.slice (some ⟨bB, oB, none⟩) lb cb))
    (h : rwp P N ops Q rest ((d, .bool false) :: env) w) :
    rwp P N ops Q (⟨some d, .call { callee := .value (.func f), args := #[x, y], argTypes := ts }, ty, pos, af, none⟩ :: rest) env w := by
  obtain ⟨ie, u, hie, hs, -, -⟩ := tiB_spec (GT.ti (P := P) (α := α))
  have hne := St.two_ne H
  have hB : w.heap[bB]? = some (.cells cB.toArray (GT.tid P α) (0, 0)) := H.heap
  have hA : w.heap[bA]? = some (.cells cA.toArray U (0, 0)) := (St.front H 1 rfl).heap
  have hov := Lib.run_overlaps_apart (P := P) w t tR (GT.tid P α) (slB_spec ht) (GT.size P α) (fun w => by rw [run_sizeOf hie, hs]) ⟨bA, oA, none⟩ ⟨bB, oB, none⟩ la ca lb cb (Ne.symm hne) U (GT.tid P α) cA.length cB.length
    (by simp [World.shape?, hA]) (by simp [World.shape?, hB]) (by cases cB with | nil => exact absurd rfl hcB | cons => simp) (by simp [World.frozen?, hA]) (by simp [World.frozen?, hA])
  have hrun : (callFunc f #[.slice (some ⟨bA, oA, none⟩) la ca, .slice (some ⟨bB, oB, none⟩) lb cb]).run P w = .ok (.value (.bool false)) w := by
    rw [run_callFunc_extern hf hname hbn hnx hfi, hov]; rfl
  exact r_val rfl rfl hN (fun a ha => by
    have hv : a.eval (.func f) = .func (.func f) #[] #[] := ha.eval rfl
    simp [execOp, resolve, hv, Deferred.ofValue, invoke, ha.eval hx, ha.eval hy, hrun]) h
theorem flat_take [Flat P α] {size i : Nat} (hs : GT.size P α = size) {l : List α} {xs : List Value} (h : odAll P w xs l []) : odAll P w (xs.take (i * size)) (l.take i) [] := by
  subst hs
  exact rdAll_od (rdAll_take (w := w) (B := 0) i (odAll_rd h (fun _ hb => by cases hb)))
theorem flat_drop [Flat P α] {size i : Nat} (hs : GT.size P α = size) {l : List α} {xs : List Value} (h : odAll P w xs l []) : odAll P w (xs.drop (i * size)) (l.drop i) [] := by
  subst hs
  exact rdAll_od (rdAll_drop (w := w) (B := 0) i (odAll_rd h (fun _ hb => by cases hb)))
theorem seg_A {i m k : Nat} {D V W : List Value} (hV : V.length = m) (hW : W.length = k) (hD : i + m + k ≤ D.length) :
    ((D.take i ++ V ++ D.drop (i + V.length)).take (i + m) ++ W ++ (D.take i ++ V ++ D.drop (i + V.length)).drop (i + m + W.length)).take (i + m + k) = D.take i ++ V ++ W := by
  have hi : (D.take i).length = i := by rw [List.length_take]; omega
  have h1 : (D.take i ++ V).length = i + m := by rw [List.length_append, hi, hV]
  have e1 : (D.take i ++ V ++ D.drop (i + V.length)).take (i + m) = D.take i ++ V := List.take_left' h1
  rw [e1, List.take_left' (by rw [List.length_append, h1, hW])]
theorem seg_B {i m k : Nat} {D V W : List Value} (hV : V.length = m) (hW : W.length = k) (hD : i + m + k ≤ D.length) :
    (((D.take (i + m) ++ W ++ D.drop (i + m + W.length)).take i ++ V ++ (D.take (i + m) ++ W ++ D.drop (i + m + W.length)).drop (i + V.length))).take (i + m + k) = D.take i ++ V ++ W := by
  have hi : (D.take i).length = i := by rw [List.length_take]; omega
  have him : (D.take (i + m)).length = i + m := by rw [List.length_take]; omega
  have e1 : (D.take (i + m) ++ W ++ D.drop (i + m + W.length)).take i = D.take i := by
    rw [List.append_assoc, List.take_append_of_le_length (by rw [him]; omega), List.take_take, Nat.min_eq_left (by omega)]
  have e2 : (D.take (i + m) ++ W ++ D.drop (i + m + W.length)).drop (i + V.length) = W ++ D.drop (i + m + W.length) := by
    rw [List.append_assoc, hV]
    exact List.drop_left' him
  rw [e1, e2, ← List.append_assoc]
  exact List.take_left' (by rw [List.length_append, List.length_append, hi, hV, hW])
theorem blk_src {b k : Nat} {cs : List Value} {T : TypeId} (hb : w.heap[b]? = some (.cells cs.toArray T (0, 0))) {j : Nat} {u : Value} (hu : (cs.take k)[j]? = some u) : w.cell? ((⟨b, 0, none⟩ : Addr).add j) = some u := by
  rw [add_lit0]
  rw [List.getElem?_take] at hu
  split at hu
  · simp [World.cell?, hb, hu]
  · cases hu
theorem iadd_nat {a b : Nat} (h : a + b ≤ 1000) : iop .add .i64 (a : Int) (b : Int) = some (.int .i64 ((a + b : Nat) : Int)) := by
  have e : IntKind.i64.wrap ((a : Int) + (b : Int)) = ((a + b : Nat) : Int) := by
    rw [IntKind.wrap_i64]
    omega
  show some (Value.int .i64 (IntKind.i64.wrap ((a : Int) + (b : Int)))) = _
  rw [e]
theorem isub_nat {a b : Nat} (h : a ≤ 1000) (hb : b ≤ a) : iop .sub .i64 (a : Int) (b : Int) = some (.int .i64 ((a - b : Nat) : Int)) := by
  have e : IntKind.i64.wrap ((a : Int) - (b : Int)) = ((a - b : Nat) : Int) := by
    rw [IntKind.wrap_i64]
    omega
  show some (Value.int .i64 (IntKind.i64.wrap ((a : Int) - (b : Int)))) = _
  rw [e]
end
end Go.GL

namespace Go.GL
open Go Go.RowKit
section
variable {P : Program} {N : Nat} {Q : Exit → Act → World → Prop} {env : Env} {w w' w0 wq : World} {ops : Array Oper} {rest : List Oper}
  {d : Nat} {t ty : TypeId} {pos : String} {af : Array Edge} {gd : Option (Nat × Bool)} {L : List Nat} {As R : List HP} {α : Type} [GT P α]
/-! ## 37. Parts of an own slice: the head goes out, the tail is cleared -/
def preV (v : Value) (j : Nat) : Value := match v with
  | .slice p _ c => .slice (if c = 0 then p else p.map (·.add 0)) j c
  | v => v
def sufV (size : Nat) (v : Value) (i : Nat) : Value := match v with
  | .slice p n c => .slice (if c = i then p else p.map (·.add (i * size))) (n - i) (c - i)
  | v => v
theorem r_lsl_nyP {x z : Operand} {v : Value} {l : List α} {B : Nat} {j : Int} {k : IntKind} (ht : slB P t (GT.tid P α) = true) (hN : Nat.blt d N = true) (hr : rdL P wq B [v] l) (hx : ev env x = some v) (hj : ev env z = some (.int k j)) (hb : (0 : Int) ≤ 0 ∧ 0 ≤ j ∧ j ≤ (l.length : Int))
    (h : ∀ v', v' = preV v j.toNat → rdL P wq B [v'] ((l.take j.toNat).drop (0 : Int).toNat) → rwp P N ops Q rest ((d, v') :: env) w) : rwp P N ops Q (⟨some d, .slice t x none (some z) none, ty, pos, af, none⟩ :: rest) env w := by
  obtain ⟨p, c, rfl⟩ := hr.shape
  obtain ⟨ie, u, hie, hs, -, -⟩ := tiB_spec (GT.ti (P := P) (α := α))
  have hcap : l.length ≤ c := by
    obtain ⟨v', hv, -, h'⟩ := hr
    simp only [List.cons.injEq, and_true] at hv
    rcases h' with ⟨rfl, rfl⟩ | ⟨ad, cap', xs, rfl, h1, -⟩
    · simp
    · simp only [Value.slice.injEq] at hv; obtain ⟨-, -, rfl⟩ := hv; exact h1
  have h2 : j ≤ (c : Int) := by omega
  have hsub := rdL_sub (i := 0) hr (Nat.zero_le j.toNat) (by omega)
  have e : preV (.slice p l.length c) j.toNat = .slice (if c = 0 then p else p.map (·.add (0 * GT.size P α))) (j.toNat - 0) (c - 0) := by
    simp [preV]
  refine r_val (v := preV (.slice p l.length c) j.toNat) (w' := w) rfl rfl hN (fun b hb' => ?_) (h _ rfl (by rw [e]; exact hsub))
  rw [e]
  simp [execOp, hb'.eval hx, hb'.eval hj, Instr.sliceAt, Instr.slice, run_underlying (slB_spec ht), Instr.sliceBounds, Instr.sliceBound, asIntOf, hb.2.1, h2, run_sizeOf hie, hs]
theorem r_lsl_ynP {x y : Operand} {v : Value} {l : List α} {B : Nat} {i : Int} {k : IntKind} (ht : slB P t (GT.tid P α) = true) (hN : Nat.blt d N = true) (hr : rdL P wq B [v] l) (hx : ev env x = some v) (hi : ev env y = some (.int k i)) (hb : 0 ≤ i ∧ i ≤ (l.length : Int) ∧ (l.length : Int) ≤ (l.length : Int))
    (h : ∀ v', v' = sufV (GT.size P α) v i.toNat → rdL P wq B [v'] ((l.take (l.length : Int).toNat).drop i.toNat) → rwp P N ops Q rest ((d, v') :: env) w) : rwp P N ops Q (⟨some d, .slice t x (some y) none none, ty, pos, af, none⟩ :: rest) env w := by
  obtain ⟨p, c, rfl⟩ := hr.shape
  obtain ⟨ie, u, hie, hs, -, -⟩ := tiB_spec (GT.ti (P := P) (α := α))
  refine r_val (v := .slice (if c = i.toNat then p else p.map (·.add (i.toNat * GT.size P α))) (l.length - i.toNat) (c - i.toNat)) (w' := w) rfl rfl hN (fun b hb' => ?_) (h _ rfl (rdL_sub hr (by omega) (by omega)))
  simp [execOp, hb'.eval hx, hb'.eval hi, Instr.sliceAt, Instr.slice, run_underlying (slB_spec ht), Instr.sliceBounds, Instr.sliceBound, asIntOf, hb.1, hb.2.1, run_sizeOf hie, hs]
theorem St.pre [Flat P α] {v nv : Value} {l : List α} {j : Int} (H : St w0 L w (ownL P v l :: R)) (hq : nv = preV v j.toNat) (hb : (0 : Int) ≤ 0 ∧ 0 ≤ j ∧ j ≤ (l.length : Int)) : St w0 L w (ownL P nv ((l.take j.toNat).drop (0 : Int).toNat) :: R) := by
  subst hq
  have hj : j.toNat ≤ l.length := by omega
  rcases St.open_flat H with ⟨rfl, rfl⟩ | ⟨b, c, cs, rfl, hnc, hcm, hcl, hod, H1⟩
  · have e0 : j.toNat = 0 := by simpa using hj
    have e : preV (.slice none 0 0) j.toNat = .slice none 0 0 := by rw [e0]; rfl
    rw [e]
    simpa using H
  · have hll : ((l.take j.toNat).drop (0 : Int).toNat).length = j.toNat := by simp; omega
    have := St.close_flat (α := α) (l := (l.take j.toNat).drop (0 : Int).toNat) (cap := c) H1 (by rw [hll]; omega) hcm hcl (fun w' => by
      rw [hll]
      have := flat_take rfl (i := j.toNat) (hod w')
      rw [List.take_take, Nat.min_eq_left (Nat.mul_le_mul_right _ hj)] at this
      simpa using this)
    rw [hll] at this
    have e : preV (.slice (some ⟨b, 0, none⟩) l.length c) j.toNat = .slice (some ⟨b, 0, none⟩) j.toNat c := by
      unfold preV
      simp only [Option.map_some, add_lit0, ite_self]
    rw [e]
    exact this
theorem flat_reps [Flat P α] (n : Nat) {z : Array Value} (hz : z.toList = GT.zero P α) (w : World) : odAll P w (Builtin.zeroCells z n).toList (List.replicate n (GT.z0 P (α := α))) [] := by
  have hsz : z.size = GT.size P α := by rw [← zero_len (P := P) (α := α), ← hz]; simp
  induction n with
  | zero => exact ⟨by simp [Builtin.zeroCells], rfl⟩
  | succ n ih =>
    rw [List.replicate_succ']
    have e : (Builtin.zeroCells z (n + 1)).toList = (Builtin.zeroCells z n).toList ++ z.toList := by
      apply List.ext_getElem
      · simp [size_zeroCells, Nat.add_mul]
      · intro i h1 h2
        have hz0 : 0 < z.size := by rw [hsz]; exact GT.pos
        simp only [Array.length_toList, size_zeroCells] at h1
        by_cases hi : i < n * z.size
        · rw [List.getElem_append_left (by simpa [size_zeroCells] using hi)]
          simp [Builtin.zeroCells]
        · rw [List.getElem_append_right (by simpa [size_zeroCells] using Nat.le_of_not_lt hi)]
          have hmod : i % z.size = i - n * z.size := by
            have : i = n * z.size + (i - n * z.size) := by omega
            rw [this, Nat.mul_comm, Nat.mul_add_mod, Nat.mod_eq_of_lt (by rw [Nat.add_mul] at h1; rw [Nat.mul_comm z.size n]; omega)]
            rw [Nat.mul_comm z.size n]; omega
          simp only [Array.getElem_toList, Builtin.zeroCells, Array.getElem_map, Array.getElem_range, hmod, Array.length_toList, Array.size_map, Array.size_range]
          rw [getElem!_pos z _ (by rw [Nat.add_mul] at h1; omega)]
    rw [e]
    have o : odAll P w z.toList [GT.z0 P (α := α)] [] := by
      rw [hz]
      exact ⟨GT.zero P α, [], [], [], by simp, rfl, GT.od_zero w, rfl, rfl⟩
    exact odAll_app ih o
theorem r_clear_own [Flat P α] {x : Operand} {v nv : Value} {l : List α} {i : Int} (ht : slB P t (GT.tid P α) = true) (H : St w0 L w (ownL P v l :: R)) (hx : ev env x = some nv) (hq : nv = sufV (GT.size P α) v i.toNat) (hb : 0 ≤ i ∧ i ≤ (l.length : Int) ∧ (l.length : Int) ≤ (l.length : Int))
    (h : ∀ w', St w0 L w' (ownL P v (l.take i.toNat ++ List.replicate (l.length - i.toNat) (GT.z0 P)) :: R) → rwp P N ops Q rest env w') :
    rwp P N ops Q (⟨none, .call { callee := .builtin .clear, args := #[x], argTypes := #[t] }, ty, pos, af, none⟩ :: rest) env w := by
  subst hq
  have hi : i.toNat ≤ l.length := by omega
  by_cases h0 : l.length - i.toNat = 0
  · have e : l.take i.toNat ++ List.replicate (l.length - i.toNat) (GT.z0 P (α := α)) = l := by
      rw [h0, List.replicate_zero, List.append_nil, List.take_of_length_le (by omega)]
    obtain ⟨p, c, rfl⟩ := H.llen (k := 0) rfl
    rw [e] at h
    refine r_valn (v := .tuple #[]) rfl rfl (fun a ha => ?_) (h w H)
    have e2 : sufV (GT.size P α) (.slice p l.length c) i.toNat = .slice (if c = i.toNat then p else p.map (·.add (i.toNat * GT.size P α))) 0 (c - i.toNat) := by
      unfold sufV; simp only [h0]
    rw [e2] at hx
    generalize (if c = i.toNat then p else p.map (·.add (i.toNat * GT.size P α))) = q at hx
    cases q <;> simp [execOp, resolve, invoke, builtin, ha.eval hx, Builtin.clear_, run_underlying (slB_spec ht)] <;> rfl
  · rcases St.open_flat H with ⟨rfl, rfl⟩ | ⟨b, c, cs, rfl, hnc, hcm, hcl, hod, H1⟩
    · simp at h0
    · have hci : c ≠ i.toNat := by omega
      have e2 : sufV (GT.size P α) (.slice (some ⟨b, 0, none⟩) l.length c) i.toNat = .slice (some ⟨b, i.toNat * GT.size P α, none⟩) (l.length - i.toNat) (c - i.toNat) := by
        unfold sufV; simp only [if_neg hci, Option.map_some, add_lit0]
      rw [e2] at hx
      obtain ⟨ii, z, hii, hz, hsz, hby, hzc⟩ := info_parts' (P := P) (α := α)
      have hzs : z.cells.size = GT.size P α := by rw [← zero_len (P := P) (α := α), ← hzc]; simp
      have hmul : i.toNat * GT.size P α + (l.length - i.toNat) * GT.size P α = l.length * GT.size P α := by rw [← Nat.add_mul]; congr 1; omega
      have hmc : l.length * GT.size P α ≤ c * GT.size P α := Nat.mul_le_mul_right _ hnc
      have hrun := run_clear_row (P := P) (t := t) (ty := ty) (w := w) (c := c - i.toNat) (slB_spec ht) (z := z) (by simp [zeroValue, typeInfo, hii, hz]) (show 0 < l.length - i.toNat by omega) H1.heap (o := i.toNat * GT.size P α) (by rw [hzs]; simp only [List.size_toArray]; omega) (by rw [hzc]; exact gt_zero_one)
      have hzl : (Builtin.zeroCells z.cells (l.length - i.toNat)).toList.length = (l.length - i.toNat) * GT.size P α := by simp [size_zeroCells, hzs]
      have H2 := St.setRow (cs' := cs.take (i.toNat * GT.size P α) ++ (Builtin.zeroCells z.cells (l.length - i.toNat)).toList ++ cs.drop (i.toNat * GT.size P α + (Builtin.zeroCells z.cells (l.length - i.toNat)).toList.length)) H1
      have hll : (l.take i.toNat ++ List.replicate (l.length - i.toNat) (GT.z0 P (α := α))).length = l.length := by
        rw [List.length_append, List.length_take, List.length_replicate]; omega
      have hti : (cs.take (i.toNat * GT.size P α)).length = i.toNat * GT.size P α := by rw [List.length_take, hcl]; omega
      have H3 := St.close_flat (α := α) (l := l.take i.toNat ++ List.replicate (l.length - i.toNat) (GT.z0 P (α := α))) (cap := c) H2 (by rw [hll]; exact hnc) hcm (by rw [List.length_append, List.length_append, hti, hzl, List.length_drop, hcl]; omega) (fun w' => by
        rw [hll, List.take_left' (by rw [List.length_append, hti, hzl, hmul])]
        have o1 := flat_take rfl (i := i.toNat) (hod w')
        rw [List.take_take, Nat.min_eq_left (Nat.mul_le_mul_right _ hi)] at o1
        exact odAll_app o1 (flat_reps _ hzc w'))
      rw [hll] at H3
      exact r_valn rfl rfl (fun a ha => by simp only at hrun; simp [execOp, resolve, invoke, builtin, ha.eval hx, hrun]; rfl) (h _ H3)
end
theorem cut_enter2 {P : Program} {R : List (List Char)} (hW : behindMainWord (wordsSigns P.initOrder.toList) = "cut".toList :: R) (h1 : P.laysLater = false) (h2 : P.bearsReflect = false) (h3 : P.doorFits [] = true) : P.mayEnter = true := by
  unfold Program.mayEnter
  rw [hW]
  have h2' : (some "cut".toList == some "cut".toList) = true := by kernel_rfl
  simp only [strip_none _ R _ cut_none, List.head?_cons, h1, h2, h2', h3, Bool.not_false, Bool.or_true, Bool.and_true, List.contains_nil]
end Go.GL

namespace Go.GL
open Go Go.RowKit
section
variable {P : Program} [GT P Int]
theorem compactUpTo_len {d : Array Int} {m : Nat} : (Lib.compactUpTo d m).length ≤ m := by
  unfold Lib.compactUpTo
  rw [List.length_map]
  have := List.length_filter_le (Lib.keeps d) (List.range m)
  rwa [List.length_range] at this
/-- slices.Compact of integers that the call owns, by the shelf's contract -/
theorem compact_own (hod : ∀ (w : World) (cs : List Value) (x : Int) (fp : List Nat), GT.od P w cs x fp ↔ cs = [.int .i64 x] ∧ True ∧ fp = []) (hsz : GT.size P Int = 1) {fn : FuncId}
    (hcall : ∀ (blk off cap : Nat) (zs : List Int) (w : World), Go.Sort.Holds (Value.int .i64) w blk off zs.toArray → zs.length ≤ 9223372036854775807 → zs.length ≤ cap →
      Calls P fn #[.slice (some ⟨blk, off, none⟩) zs.length cap] w fun e w' => e = .returned (.slice (some ⟨blk, off, none⟩) (Lib.compact zs).length cap) ∧ ∃ q, w' = Go.Sort.putRow (Value.int .i64) (Go.Sort.ahead w q) blk off (Lib.compact zs ++ List.replicate (zs.length - (Lib.compact zs).length) 0).toArray)
    (hnone : ∀ (p : Option Addr) (cap : Nat) (w : World), Calls P fn #[.slice p 0 cap] w fun e w' => e = .returned (.slice p 0 cap) ∧ w' = w)
    {w : World} {fp : List Nat} {v : Value} {l : List Int} (H : St w fp w [ownL P v l]) :
    Calls P fn #[v] w (Ret fun u w' => ∃ v1 : Value, u = v1 ∧ St w fp w' [ownL P v1 (Lib.compact l)]) := by
  obtain ⟨f1, ho, hb⟩ := H.get (k := 0) rfl
  obtain ⟨u, xs, g, hu, hown, hall, hfp⟩ := ho
  simp only [List.cons.injEq, and_true] at hu
  subst hu
  obtain ⟨rfl, rfl⟩ := (odAll_ints hod).1 hall
  rcases hown.2 with ⟨rfl, hn⟩ | ⟨blk, cap, cur, rfl, hb0, hblk, hnc, hcm, hcs, htk⟩
  · have hl : l = [] := List.eq_nil_of_length_eq_zero hn
    subst hl
    refine Calls.mono (hnone none 0 w) fun e w' he => ?_
    obtain ⟨rfl, rfl⟩ := he
    exact ⟨_, rfl, by simpa [Lib.compact, Lib.compactUpTo] using H⟩
  · rw [hsz] at hcs htk
    have htk' : cur.toList.take l.length = l.map (Value.int .i64) := by simpa using htk
    refine Calls.mono (hcall blk 0 cap l w (Go.holds_of_blockI hblk htk') (by unfold maxLen at hcm; omega) hnc) fun e w' he => ?_
    obtain ⟨rfl, n, rfl⟩ := he
    refine ⟨_, rfl, ?_⟩
    have hcl : (Lib.compact l).length ≤ l.length := compactUpTo_len
    have hlen : (Lib.compact l ++ List.replicate (l.length - (Lib.compact l).length) (0 : Int)).length = l.length := by
      rw [List.length_append, List.length_replicate]; omega
    have hgr := Go.grownBy_sortedI (w := w) (g := blk) (n := n) (os := #[]) (Lib.compact l ++ List.replicate (l.length - (Lib.compact l).length) (0 : Int)).toArray
    have hnew := Go.ownsRow_sortedI (w := w) (base := 0) (n := n) (os := #[]) hlen (Nat.zero_le _) hblk hnc hcm hcs
    rw [Go.Sort.grow_empty] at hgr hnew
    have hnew2 : (Go.Sort.putRow (Value.int .i64) (Go.Sort.ahead w n) blk 0 (Lib.compact l ++ List.replicate (l.length - (Lib.compact l).length) (0 : Int)).toArray).ownsRow 0 (GT.tid P Int) 1 (.slice (some ⟨blk, 0, none⟩) (Lib.compact l).length cap) (Lib.compact l).length ((Lib.compact l).map (Value.int .i64)) := by
      refine ⟨by simp, ?_⟩
      rcases hnew.2 with ⟨h1, -⟩ | ⟨g, cap', cur', h1, h2, h3, h4, h5, h6, h7⟩
      · cases h1
      · simp only [Value.slice.injEq, Option.some.injEq, Addr.mk.injEq, and_true, true_and] at h1
        obtain ⟨rfl, rfl⟩ := h1
        refine .inr ⟨blk, cap, cur', rfl, h2, h3, by omega, h5, h6, ?_⟩
        have : (cur'.toList.take (l.length * 1)).take ((Lib.compact l).length * 1) = (Lib.compact l).map (Value.int .i64) := by
          rw [h7, List.map_append, List.take_left' (by simp)]
        rw [List.take_take, Nat.min_eq_left (by omega)] at this
        exact this
    exact H.upd (k := 0) (A' := ownL P (.slice (some ⟨blk, 0, none⟩) (Lib.compact l).length cap) (Lib.compact l)) rfl hgr.1 hgr.2 hgr.3 hgr.4 (fun fp0 hA hnd hlt0 => by
      obtain ⟨u2, xs2, g2, hu2, hown2, hall2, rfl⟩ := hA
      simp only [List.cons.injEq, and_true] at hu2
      subst hu2
      obtain ⟨rfl, rfl⟩ := (odAll_ints hod).1 hall2
      refine ⟨[blk], ⟨_, (Lib.compact l).map (Value.int .i64), [], rfl, ?_, (odAll_ints hod).2 ⟨rfl, rfl⟩, rfl⟩, by simp, fun b hb => .inl (by simpa [Value.ownBlock] using hb), fun b hlb hnb => ?_⟩
      · rw [hsz]
        exact hnew2
      · exact hgr.5 b hlb (fun e => hnb (by cases e; simp [Value.ownBlock])))
end
end Go.GL

namespace Go.GL
open Go Go.RowKit
section
variable {P : Program} {w : World} {B : Nat} {α : Type} [GT P α]
/-- a part of an own slice, read again behind a change elsewhere -/
theorem rdL_suf {v nv : Value} {l : List α} {i : Int} (hq : nv = sufV (GT.size P α) v i.toNat) (hb : 0 ≤ i ∧ i ≤ (l.length : Int) ∧ (l.length : Int) ≤ (l.length : Int)) (hr : rdL P w B [v] l) : rdL P w B [nv] ((l.take (l.length : Int).toNat).drop i.toNat) := by
  obtain ⟨p, c, rfl⟩ := hr.shape
  subst hq
  exact rdL_sub hr (by omega) (by omega)
theorem rdL_pre {v nv : Value} {l : List α} {j : Int} (hq : nv = preV v j.toNat) (hb : (0 : Int) ≤ 0 ∧ 0 ≤ j ∧ j ≤ (l.length : Int)) (hr : rdL P w B [v] l) : rdL P w B [nv] ((l.take j.toNat).drop (0 : Int).toNat) := by
  obtain ⟨p, c, rfl⟩ := hr.shape
  subst hq
  have h := rdL_sub (i := 0) hr (Nat.zero_le j.toNat) (by omega)
  have e : preV (.slice p l.length c) j.toNat = .slice (if c = 0 then p else p.map (·.add (0 * GT.size P α))) (j.toNat - 0) (c - 0) := by simp [preV]
  rw [e]
  exact h
end
end Go.GL

namespace Go.GL
open Go Go.RowKit
/-! ## 38. The library's sort by a function, over data that the call owns -/
section
variable {w : World} {g n : Nat} {os : Array Obj} {cur : Array Value} {e : TypeId} {fr : Nat × Nat}
theorem row_heap (F : Array Value) (hb : w.heap[g]? = some (.cells cur e fr)) :
    (Sort.grow (Sort.putRow id (Sort.ahead w n) g 0 F) os).heap[g]? = some (.cells (Sort.putCells id 0 F cur) e fr) := by
  have hg : g < w.heap.size := (Array.getElem?_eq_some_iff.1 hb).1
  rw [Sort.heap_grow_old _ _ (by simpa using hg)]
  simp [Sort.putRow, Sort.mapBlock, Sort.ahead, Array.getElem?_modify, hb, Sort.onCells]
theorem row_grownBy (F : Array Value) : w.grownBy (Sort.grow (Sort.putRow id (Sort.ahead w n) g 0 F) os) (some g) := by
  refine ⟨rfl, rfl, rfl, by simp, fun k hk hne => ?_⟩
  rw [Sort.heap_grow_old _ _ (by simpa using hk)]
  have : g ≠ k := fun e => hne (by rw [e])
  simp [Sort.putRow, Sort.mapBlock, Sort.ahead, Array.getElem?_modify, this]
theorem row_take (cur : Array Value) (ts : List Value) (h : ts.length ≤ cur.size) : (Sort.putCells id 0 ts.toArray cur).toList.take ts.length = ts := by
  apply List.ext_getElem?
  intro j
  by_cases hj : j < ts.length
  · rw [List.getElem?_take_of_lt hj, Array.getElem?_toList]
    simp [Sort.putCells, hj, show j < cur.size by omega]
  · rw [List.getElem?_take_eq_none (by omega), List.getElem?_eq_none (by omega)]
theorem row_holds {ts : List Value} (hb : w.heap[g]? = some (.cells cur e (0, 0))) (ht : cur.toList.take ts.length = ts) : Sort.Holds id w g 0 ts.toArray := by
  intro j hj
  have hj' : j < ts.length := by simpa using hj
  refine ⟨?_, by simp [World.frozen?, hb]⟩
  have h1 : (cur.toList.take ts.length)[j]? = ts[j]? := by rw [ht]
  rw [List.getElem?_take_of_lt hj'] at h1
  simp only [World.cell?, hb, Nat.zero_add]
  simp only [Option.isSome_none, Bool.false_eq_true, if_false]
  rw [← Array.getElem?_toList, h1]
  simp [hj']
theorem putRow_map {α : Type} [Inhabited α] (enc : α → Value) (w : World) (blk off : Nat) (d : Array α) : Sort.putRow enc w blk off d = Sort.putRow id w blk off (d.map enc) := by
  unfold Sort.putRow
  congr 1
  funext c
  unfold Sort.putCells
  rw [Array.size_map]
  congr 1
  funext k x
  by_cases h : off ≤ k ∧ k < off + d.size
  · rw [if_pos h, if_pos h]
    have : k - off < d.size := by omega
    simp [this]
  · rw [if_neg h, if_neg h]
theorem holds_map {α : Type} [Inhabited α] {enc : α → Value} {blk off : Nat} {d : Array α} (h : Sort.Holds id w blk off (d.map enc)) : Sort.Holds enc w blk off d := by
  intro j hj
  have := h j (by simpa using hj)
  simpa [hj] using this
end
theorem flat_get {L : List (List Value)} {k : Nat} (hk : 0 < k) (hl : ∀ x ∈ L, x.length = k) : ∀ t, t < L.length * k → L.flatten[t]? = (L[t / k]?).bind (·[t % k]?) := by
  induction L with
  | nil => intro t ht; simp at ht
  | cons x L ih =>
    intro t ht
    have hx : x.length = k := hl x (List.mem_cons_self ..)
    rw [List.flatten_cons]
    by_cases h : t < k
    · rw [List.getElem?_append_left (by omega), Nat.div_eq_of_lt h, Nat.mod_eq_of_lt h]; rfl
    · rw [List.getElem?_append_right (by omega), hx, ih (fun y hy => hl y (List.mem_cons_of_mem _ hy)) _ (by rw [List.length_cons, Nat.add_mul] at ht; omega)]
      have e1 : t / k = (t - k) / k + 1 := by rw [Nat.div_eq_sub_div hk (by omega)]
      have e2 : t % k = (t - k) % k := by rw [Nat.mod_eq_sub_mod (by omega)]
      rw [e1, e2, List.getElem?_cons_succ]
theorem flat_len {L : List (List Value)} {k : Nat} (hl : ∀ x ∈ L, x.length = k) : L.flatten.length = L.length * k := by
  induction L with
  | nil => simp
  | cons x L ih => rw [List.flatten_cons, List.length_append, ih (fun y hy => hl y (List.mem_cons_of_mem _ hy)), hl x (List.mem_cons_self ..), List.length_cons, Nat.add_mul]; omega
theorem flatK_eq {α : Type} [Inhabited α] {enc : α → List Value} {k : Nat} (hk0 : 0 < k) (hk : ∀ x, (enc x).length = k) (d : List α) : Sort.flatK enc k d.toArray = ((d.map enc).flatten).toArray := by
  have hl : ∀ x ∈ d.map enc, x.length = k := fun x hx => by obtain ⟨y, -, rfl⟩ := List.mem_map.1 hx; exact hk y
  have hln := flat_len hl
  rw [List.length_map] at hln
  apply Sort.ext_get!
  · simp [hln]
  · intro t ht
    have ht' : t < d.length * k := by simpa using ht
    rw [Sort.get_flatK _ _ _ _ (by simpa using ht')]
    have hq : t / k < d.length := Nat.div_lt_of_lt_mul (by rw [Nat.mul_comm]; exact ht')
    have hr : t % k < k := Nat.mod_lt _ hk0
    have h1 := flat_get hk0 hl t (by rw [List.length_map]; exact ht')
    have e1 : d.toArray[t / k]! = d[t / k] := by simp [hq]
    rw [e1, getElem!_pos _ _ (by rw [hk]; exact hr), getElem!_pos _ _ (by simpa [hln] using ht')]
    have h2 : (d.map enc)[t / k]? = some (enc d[t / k]) := by simp [hq]
    rw [h2, Option.bind_some, List.getElem?_eq_getElem (by rw [hln]; exact ht'), List.getElem?_eq_getElem (by rw [hk]; exact hr)] at h1
    simpa using (Option.some.inj h1).symm
/-! the elements with their cells and their blocks -/
section
variable {P : Program} {τ : Type} [GT P τ]
abbrev Trip (τ : Type) : Type := List Value × τ × List Nat
def tripOk (P : Program) [GT P τ] (w : World) (T : List (Trip τ)) : Prop := ∀ t ∈ T, GT.od P w t.1 t.2.1 t.2.2
theorem odAll_trips {w : World} : ∀ {l : List τ} {xs : List Value} {fp : List Nat}, odAll P w xs l fp → ∃ T : List (Trip τ), tripOk P w T ∧ xs = (T.map (·.1)).flatten ∧ l = T.map (·.2.1) ∧ fp = (T.map (·.2.2)).flatten := by
  intro l
  induction l with
  | nil => rintro xs fp ⟨rfl, rfl⟩; exact ⟨[], fun t h => (by cases h), rfl, rfl, rfl⟩
  | cons x l ih =>
    rintro xs fp ⟨cs, ys, f, g, rfl, rfl, h, hr⟩
    obtain ⟨T, hT, rfl, rfl, rfl⟩ := ih hr
    refine ⟨(cs, x, f) :: T, fun t ht => ?_, rfl, rfl, rfl⟩
    rcases List.mem_cons.1 ht with rfl | ht
    · exact h
    · exact hT t ht
theorem odAll_of_trips {w : World} : ∀ {T : List (Trip τ)}, tripOk P w T → odAll P w (T.map (·.1)).flatten (T.map (·.2.1)) (T.map (·.2.2)).flatten := by
  intro T
  induction T with
  | nil => intro _; exact ⟨rfl, rfl⟩
  | cons t T ih =>
    intro h
    exact ⟨t.1, _, t.2.2, _, rfl, rfl, h t (List.mem_cons_self ..), ih fun u hu => h u (List.mem_cons_of_mem _ hu)⟩
theorem trips_inj {T : List (Trip τ)} (hn : (T.map (·.2.1)).Nodup) {s t : Trip τ} (hs : s ∈ T) (ht : t ∈ T) (h : s.2.1 = t.2.1) : s = t := by
  induction T with
  | nil => cases hs
  | cons a T ih =>
    rw [List.map_cons, List.nodup_cons] at hn
    rcases List.mem_cons.1 hs with rfl | hs' <;> rcases List.mem_cons.1 ht with rfl | ht'
    · rfl
    · exact absurd (List.mem_map.2 ⟨t, ht', h.symm⟩) hn.1
    · exact absurd (List.mem_map.2 ⟨s, hs', h⟩) hn.1
    · exact ih hn.2 hs' ht'
end
end Go.GL

namespace Go.GL
open Go Go.RowKit
section
variable {P : Program} {τ : Type} [GT P τ] {w0 w : World} {L : List Nat} {v : Value} {l : List τ}
theorem trips_len {T : List (Trip τ)} (h : tripOk P w T) : (T.map (·.1)).flatten.length = T.length * GT.size P τ := by
  have := flat_len (L := T.map (·.1)) (k := GT.size P τ) (fun x hx => by obtain ⟨t, ht, rfl⟩ := List.mem_map.1 hx; exact GT.od_len (h t ht))
  rwa [List.length_map] at this
/-- an own slice, opened into its elements -/
theorem St.trips (H : St w0 L w [ownL P v l]) : (v = .slice none 0 0 ∧ l = []) ∨
    ∃ (T : List (Trip τ)) (blk cap : Nat) (cur : Array Value), v = .slice (some ⟨blk, 0, none⟩) T.length cap ∧ tripOk P w T ∧ l = T.map (·.2.1) ∧ w.heap[blk]? = some (.cells cur (GT.tid P τ) (0, 0)) ∧
      cur.toList.take (T.map (·.1)).flatten.length = (T.map (·.1)).flatten ∧ (∀ t ∈ T, ∀ b ∈ t.2.2, b ≠ blk ∧ b < w.heap.size) ∧
      ∀ (T' : List (Trip τ)) (n : Nat) (os : Array Obj), T'.Perm T → St w0 L (Sort.grow (Sort.putRow id (Sort.ahead w n) blk 0 ((T'.map (·.1)).flatten).toArray) os) [ownL P v (T'.map (·.2.1))] := by
  obtain ⟨fp, hs, hn, hb⟩ := H.sep
  obtain ⟨f, g0, hA, hg0, rfl⟩ := hs
  obtain rfl : g0 = [] := hg0
  rw [List.append_nil] at hn hb
  obtain ⟨u, xs, g, hu, hown, hall, rfl⟩ := hA
  simp only [List.cons.injEq, and_true] at hu
  subst hu
  obtain ⟨T, hT, rfl, rfl, rfl⟩ := odAll_trips hall
  rcases hown.2 with ⟨rfl, hn0⟩ | ⟨blk, cap, cur, rfl, -, hblk, hnc, hcm, hcs, htk⟩
  · exact .inl ⟨rfl, List.eq_nil_of_length_eq_zero hn0⟩
  · have hlT := trips_len hT
    rw [List.length_map] at hnc htk
    have hbm : blk ∈ (Value.slice (some ⟨blk, 0, none⟩) (T.map (·.2.1)).length cap).ownBlock.toList ++ (T.map (·.2.2)).flatten := List.mem_append_left _ (by simp [Value.ownBlock])
    have hne : ∀ b ∈ (T.map (·.2.2)).flatten, b ≠ blk := fun b hbf e => by
      subst e
      rw [List.nodup_append] at hn
      exact hn.2.2 b (by simp [Value.ownBlock]) b hbf rfl
    have hin : ∀ t ∈ T, ∀ b ∈ t.2.2, b ∈ (T.map (·.2.2)).flatten := fun t ht b hb2 => List.mem_flatten.2 ⟨t.2.2, List.mem_map.2 ⟨t, ht, rfl⟩, hb2⟩
    have hkeep : ∀ t ∈ T, ∀ b ∈ t.2.2, b ≠ blk ∧ b < w.heap.size := fun t ht b hb2 => ⟨hne b (hin t ht b hb2), (hb b (List.mem_append_right _ (hin t ht b hb2))).2⟩
    refine .inr ⟨T, blk, cap, cur, by rw [List.length_map], hT, rfl, hblk, by rw [hlT]; exact htk, hkeep, fun T' n os hp => ?_⟩
    have hgr := row_grownBy (w := w) (g := blk) (n := n) (os := os) ((T'.map (·.1)).flatten).toArray
    have hT1 : tripOk P w T' := fun t ht => hT t (hp.mem_iff.1 ht)
    have hlT' := trips_len hT1
    have hl' := hp.length_eq
    have hheap := row_heap (n := n) (os := os) ((T'.map (·.1)).flatten).toArray hblk
    have hfp : (T'.map (·.2.2)).flatten.Perm (T.map (·.2.2)).flatten := (hp.map _).flatten
    refine ⟨hgr.1.trans H.os, hgr.2.trans H.tape, hgr.3.trans H.output, Nat.le_trans H.size hgr.4, fun b hb1 hL => ?_, (Value.slice (some ⟨blk, 0, none⟩) (T.map (·.2.1)).length cap).ownBlock.toList ++ (T'.map (·.2.2)).flatten, ?_, ?_, ?_⟩
    · have hnb : b ≠ blk := fun e => by
        subst e
        rcases (hb b hbm).1 with h | h
        · exact hL h
        · omega
      rw [hgr.5 b (Nat.lt_of_lt_of_le hb1 H.size) (fun e => hnb (by cases e; rfl))]
      exact H.block b hb1 hL
    · refine ⟨_, [], ⟨_, (T'.map (·.1)).flatten, (T'.map (·.2.2)).flatten, rfl, ?_, odAll_of_trips fun t ht => GT.od_keep (fun b hb2 => ?_) (hT1 t ht), rfl⟩, rfl, by simp⟩
      · refine ⟨by rw [hlT', List.length_map], .inr ⟨blk, cap, _, ?_, Nat.zero_le _, hheap, ?_, hcm, by simp [Sort.putCells, hcs], ?_⟩⟩
        · rw [List.length_map, List.length_map, hl']
        · rw [List.length_map, hl']; exact hnc
        · rw [List.length_map, ← hlT']
          refine row_take cur _ ?_
          rw [hlT', hl', hcs]
          exact Nat.mul_le_mul_right _ hnc
      · obtain ⟨h1, h2⟩ := hkeep t (hp.mem_iff.1 ht) b hb2
        exact hgr.5 b h2 (fun e => h1 (by cases e; rfl))
    · exact (List.Perm.append_left _ hfp).nodup_iff.2 hn
    · intro b hbb
      have := hb b ((List.Perm.append_left _ hfp).mem_iff.1 hbb)
      exact ⟨this.1, Nat.lt_of_lt_of_le this.2 hgr.4⟩
theorem map_attach_ms {T : List (Trip τ)} {r : {t // t ∈ T} → {t // t ∈ T} → Bool} {s : τ → τ → Bool} (h : ∀ a b, r a b = s a.1.2.1 b.1.2.1) :
    ((T.attach.mergeSort r).map Subtype.val).Perm T ∧ ((T.attach.mergeSort r).map Subtype.val).map (·.2.1) = (T.map (·.2.1)).mergeSort s := by
  constructor
  · have := (List.mergeSort_perm T.attach r).map Subtype.val
    rwa [List.attach_map_subtype_val] at this
  · rw [List.map_map]
    show (T.attach.mergeSort r).map (fun a => a.1.2.1) = _
    rw [List.map_mergeSort (s := s) (fun a _ b _ => h a b)]
    congr 1
    have : T.attach.map (fun a => a.1.2.1) = (T.attach.map Subtype.val).map (·.2.1) := by rw [List.map_map]; rfl
    rw [this, List.attach_map_subtype_val]
theorem swo_trips {T : List (Trip τ)} {cmp : τ → τ → Int} (hO : Sort.SWO (Proofs.ltOf fun x y : {x // x ∈ T.map (·.2.1)} => cmp x.1 y.1)) :
    Sort.SWO (Proofs.ltOf fun s t : {t // t ∈ T} => cmp s.1.2.1 t.1.2.1) :=
  have m : ∀ s : {t // t ∈ T}, s.1.2.1 ∈ T.map (·.2.1) := fun s => List.mem_map.2 ⟨s.1, s.2, rfl⟩
  ⟨fun x => hO.irrefl ⟨_, m x⟩, fun x y z => hO.trans ⟨_, m x⟩ ⟨_, m y⟩ ⟨_, m z⟩, fun x y z => hO.ntrans ⟨_, m x⟩ ⟨_, m y⟩ ⟨_, m z⟩⟩
theorem flat_ones {α : Type} {f : α → List Value} {enc : α → Value} (h : ∀ x, f x = [enc x]) (M : List α) : (M.map f).flatten = M.map enc := by
  induction M with
  | nil => rfl
  | cons a M ih => rw [List.map_cons, List.flatten_cons, ih, h a]; rfl
/-- slices.SortFunc at elements of one cell (slices of slices), by a function that turns nothing -/
theorem sortf_one {ρ : Go.Shelf.Ren} (L0 : Proofs.SlLaysF.n6 P ρ) (hsz : GT.size P τ = 1) (cmp : τ → τ → Int) {g : Nat} (eg : ∀ args w, (callFunc g args).run P w = .ok (.enter g args) w) (hl62 : l.length < 4611686018427387904) (hnd : l.Nodup)
    (hO : Sort.SWO (Proofs.ltOf fun x y : {x // x ∈ l} => cmp x.1 y.1)) (h0 : ∀ x ∈ l, ∀ y ∈ l, ¬ cmp x y < 0 → ¬ cmp y x < 0 → x = y)
    (hcmp : ∀ (W : World) (a b : Value) (x y : τ), GT.rd P W W.heap.size [a] x → GT.rd P W W.heap.size [b] y → x ∈ l → y ∈ l → Calls P g #[a, b] W (Ret fun u w' => u = .int .i64 (cmp x y) ∧ W = w'))
    (H : St w0 L w [ownL P v l]) : Calls P (ρ.f 6) #[v, .func (.func g) #[] #[]] w (Ret fun u w' => u = .tuple #[] ∧ St w0 L w' [ownL P v (l.mergeSort fun x y => !decide (cmp y x < 0))]) := by
  rcases H.trips with ⟨rfl, rfl⟩ | ⟨T, blk, cap, cur, rfl, hT, rfl, hblk, htk, hfb, hnew⟩
  · refine Calls.mono (Proofs.AnyF.slices_SortFunc_none { L0 with } none 0 _ w) fun e w' he => ?_
    obtain ⟨rfl, rfl⟩ := he
    exact ⟨rfl, by simpa using H⟩
  · cases hTe : T with
    | nil =>
      subst hTe
      refine Calls.mono (Proofs.AnyF.slices_SortFunc_none { L0 with } (some ⟨blk, 0, none⟩) cap _ w) fun e w' he => ?_
      obtain ⟨rfl, rfl⟩ := he
      exact ⟨rfl, by simpa using H⟩
    | cons t0 T0 =>
      rw [← hTe]
      have hlt : blk < w.heap.size := (Array.getElem?_eq_some_iff.1 hblk).1
      haveI : Inhabited {t // t ∈ T} := ⟨⟨t0, by rw [hTe]; exact List.mem_cons_self ..⟩⟩
      let enc : {t // t ∈ T} → Value := fun t => t.1.1.headD undef
      have henc : ∀ t : {t // t ∈ T}, t.1.1 = [enc t] := fun t => by
        have := GT.od_len (hT t.1 t.2)
        rw [hsz] at this
        obtain ⟨a, ha⟩ := List.length_eq_one_iff.1 this
        show t.1.1 = [t.1.1.headD undef]
        rw [ha]; rfl
      have h1 : Proofs.OneCell enc := fun t => GT.od_one (hT t.1 t.2) _ (by rw [henc t]; exact List.mem_singleton.2 rfl)
      have hmap : ∀ M : List {t // t ∈ T}, M.toArray.map enc = (((M.map Subtype.val).map (·.1)).flatten).toArray := fun M => by
        rw [List.map_map]
        show _ = (M.map fun t => t.1.1).flatten.toArray
        rw [flat_ones (enc := enc) henc, List.map_toArray]
      have m : ∀ s : {t // t ∈ T}, s.1.2.1 ∈ T.map (·.2.1) := fun s => List.mem_map.2 ⟨s.1, s.2, rfl⟩
      have hH : Sort.Holds enc w blk 0 T.attach.toArray := holds_map (by rw [hmap, List.attach_map_subtype_val]; exact row_holds hblk htk)
      have hc : Proofs.CmpLays1 P g #[] enc (fun s t => cmp s.1.2.1 t.1.2.1) blk 0 T.attach.toArray.size w := by
        intro q os dk _ x y
        have hW : Proofs.sortWorld enc w blk 0 q dk os = Sort.grow (Sort.putRow id (Sort.ahead w q) blk 0 (dk.map enc)) os := by unfold Proofs.sortWorld; rw [putRow_map]
        have hgr := row_grownBy (w := w) (g := blk) (n := q) (os := os) (dk.map enc)
        rw [hW]
        have rd : ∀ z : {t // t ∈ T}, GT.rd P (Sort.grow (Sort.putRow id (Sort.ahead w q) blk 0 (dk.map enc)) os) (Sort.grow (Sort.putRow id (Sort.ahead w q) blk 0 (dk.map enc)) os).heap.size [enc z] z.1.2.1 := fun z => by
          rw [← henc z]
          refine GT.od_rd (fp := z.1.2.2) (GT.od_keep (fun b hb => ?_) (hT z.1 z.2)) fun b hb => Nat.lt_of_lt_of_le (hfb z.1 z.2 b hb).2 hgr.4
          exact hgr.5 b (hfb z.1 z.2 b hb).2 (fun e => (hfb z.1 z.2 b hb).1 (by cases e; rfl))
        refine Calls.mono (hcmp _ (enc x) (enc y) x.1.2.1 y.1.2.1 (rd x) (rd y) (m x) (m y)) fun e w' he => ?_
        cases e with
        | returned u => obtain ⟨rfl, rfl⟩ := he; exact ⟨rfl, 0, #[], by rw [Sort.grow_empty]; rfl⟩
        | panicked => exact he.elim
        | outgrown => exact he.elim
      have hcall := Proofs.Any.slices_SortFunc_total L0 enc h1 _ (swo_trips hO) g #[] blk 0 cap T.attach.toArray w eg hc hH hlt (by simpa using hl62) (fun x y hxy hyx => Subtype.ext (trips_inj hnd x.2 y.2 (h0 _ (m x) _ (m y) (by simpa [Proofs.ltOf] using hxy) (by simpa [Proofs.ltOf] using hyx))))
      have e1 : T.attach.toArray.size = T.length := by simp
      rw [e1] at hcall
      refine Calls.mono hcall fun e w' he => ?_
      obtain ⟨rfl, n, os, rfl⟩ := he
      refine ⟨rfl, ?_⟩
      obtain ⟨hp, hms⟩ := map_attach_ms (T := T) (r := fun x y => !(Proofs.ltOf fun s t : {t // t ∈ T} => cmp s.1.2.1 t.1.2.1) y x) (s := fun x y => !decide (cmp y x < 0)) (fun a b => rfl)
      have := hnew _ n os hp
      rw [hms] at this
      unfold Proofs.sortWorld
      rw [putRow_map, hmap]
      exact this
/-- slices.SortFunc at structs -/
theorem sortf_cells {ρ : Go.Shelf.Ren} (L0 : Proofs.SlLaysF0.n6 P ρ) (aE : ∀ w, (isAgg (ρ.t 24)).run P w = .ok true w) (zE : ∀ w, (Go.sizeOf (ρ.t 24)).run P w = .ok (GT.size P τ) w) (cmp : τ → τ → Int) {g : Nat} (eg : ∀ args w, (callFunc g args).run P w = .ok (.enter g args) w) (hl62 : l.length < 4611686018427387904) (hnd : l.Nodup)
    (hO : Sort.SWO (Proofs.ltOf fun x y : {x // x ∈ l} => cmp x.1 y.1)) (h0 : ∀ x ∈ l, ∀ y ∈ l, ¬ cmp x y < 0 → ¬ cmp y x < 0 → x = y)
    (hcmp : ∀ (W : World) (a b : List Value) (x y : τ), GT.rd P W W.heap.size a x → GT.rd P W W.heap.size b y → x ∈ l → y ∈ l → Calls P g #[.agg a.toArray, .agg b.toArray] W fun e w' => e = .returned (.int .i64 (cmp x y)) ∧ ∃ q os', w' = Sort.grow (W.drewN q) os')
    (H : St w0 L w [ownL P v l]) : Calls P (ρ.f 6) #[v, .func (.func g) #[] #[]] w (Ret fun u w' => u = .tuple #[] ∧ St w0 L w' [ownL P v (l.mergeSort fun x y => !decide (cmp y x < 0))]) := by
  rcases H.trips with ⟨rfl, rfl⟩ | ⟨T, blk, cap, cur, rfl, hT, rfl, hblk, htk, hfb, hnew⟩
  · refine Calls.mono (Proofs.AnyF.slices_SortFunc_none L0 none 0 _ w) fun e w' he => ?_
    obtain ⟨rfl, rfl⟩ := he
    exact ⟨rfl, by simpa using H⟩
  · cases hTe : T with
    | nil =>
      subst hTe
      refine Calls.mono (Proofs.AnyF.slices_SortFunc_none L0 (some ⟨blk, 0, none⟩) cap _ w) fun e w' he => ?_
      obtain ⟨rfl, rfl⟩ := he
      exact ⟨rfl, by simpa using H⟩
    | cons t0 T0 =>
      rw [← hTe]
      have hlt : blk < w.heap.size := (Array.getElem?_eq_some_iff.1 hblk).1
      haveI : Inhabited {t // t ∈ T} := ⟨⟨t0, by rw [hTe]; exact List.mem_cons_self ..⟩⟩
      let enc : {t // t ∈ T} → List Value := fun t => t.1.1
      have hk : ∀ x, (enc x).length = GT.size P τ := fun t => GT.od_len (hT t.1 t.2)
      have h1 : ∀ x, ∀ u ∈ enc x, u.oneCell' = true := fun t => GT.od_one (hT t.1 t.2)
      have hmap : ∀ M : List {t // t ∈ T}, Sort.flatK enc (GT.size P τ) M.toArray = (((M.map Subtype.val).map (·.1)).flatten).toArray := fun M => by
        rw [flatK_eq GT.pos hk, List.map_map]; rfl
      have m : ∀ s : {t // t ∈ T}, s.1.2.1 ∈ T.map (·.2.1) := fun s => List.mem_map.2 ⟨s.1, s.2, rfl⟩
      have hH : Sort.HoldsK enc (GT.size P τ) w blk 0 T.attach.toArray := by
        unfold Sort.HoldsK
        rw [hmap, List.attach_map_subtype_val]
        exact row_holds hblk htk
      have hc : Proofs.CmpLays P g #[] enc (GT.size P τ) (fun s t => cmp s.1.2.1 t.1.2.1) blk 0 T.attach.toArray.size w := by
        intro q os dk _ x y
        have hgr := row_grownBy (w := w) (g := blk) (n := q) (os := os) (Sort.flatK enc (GT.size P τ) dk)
        have rd : ∀ z : {t // t ∈ T}, GT.rd P (Proofs.sortWorldK enc (GT.size P τ) w blk 0 q dk os) (Proofs.sortWorldK enc (GT.size P τ) w blk 0 q dk os).heap.size (enc z) z.1.2.1 := fun z => by
          refine GT.od_rd (fp := z.1.2.2) (GT.od_keep (fun b hb => ?_) (hT z.1 z.2)) fun b hb => Nat.lt_of_lt_of_le (hfb z.1 z.2 b hb).2 hgr.4
          exact hgr.5 b (hfb z.1 z.2 b hb).2 (fun e => (hfb z.1 z.2 b hb).1 (by cases e; rfl))
        exact hcmp _ (enc x) (enc y) x.1.2.1 y.1.2.1 (rd x) (rd y) (m x) (m y)
      have hcall := Proofs.AnyQ.slices_SortFunc_total L0 (GT.size P τ) aE zE enc hk h1 _ (swo_trips hO) g #[] blk 0 cap T.attach.toArray w eg hc hH hlt (by simpa using hl62) (fun x y hxy hyx => Subtype.ext (trips_inj hnd x.2 y.2 (h0 _ (m x) _ (m y) (by simpa [Proofs.ltOf] using hxy) (by simpa [Proofs.ltOf] using hyx))))
      have e1 : T.attach.toArray.size = T.length := by simp
      rw [e1] at hcall
      refine Calls.mono hcall fun e w' he => ?_
      obtain ⟨rfl, n, os, rfl⟩ := he
      refine ⟨rfl, ?_⟩
      obtain ⟨hp, hms⟩ := map_attach_ms (T := T) (r := fun x y => !(Proofs.ltOf fun s t : {t // t ∈ T} => cmp s.1.2.1 t.1.2.1) y x) (s := fun x y => !decide (cmp y x < 0)) (fun a b => rfl)
      have := hnew _ n os hp
      rw [hms] at this
      unfold Proofs.sortWorldK Sort.putRowK
      rw [hmap]
      exact this
/-- what a sort by the function c needs, at the data that are sorted -/
def goodCmp (c : τ → τ → Option Int) (l : List τ) : Prop := l.length < 4611686018427387904 ∧ l.Nodup ∧ (∀ x ∈ l, ∀ y ∈ l, (c x y).isSome = true) ∧ (∀ x ∈ l, ¬ (c x x).getD 0 < 0) ∧
  (∀ x ∈ l, ∀ y ∈ l, ∀ z ∈ l, (c x y).getD 0 < 0 → (c y z).getD 0 < 0 → (c x z).getD 0 < 0) ∧ (∀ x ∈ l, ∀ y ∈ l, ∀ z ∈ l, ¬ (c x y).getD 0 < 0 → ¬ (c y z).getD 0 < 0 → ¬ (c x z).getD 0 < 0) ∧
  ∀ x ∈ l, ∀ y ∈ l, ¬ (c x y).getD 0 < 0 → ¬ (c y x).getD 0 < 0 → x = y
end
section
variable {P : Program} {τ : Type} [GT P τ] [DecidableEq τ] {w0 w : World} {L : List Nat} {v : Value} {l r : List τ}
instance goodDec {σ : Type} [DecidableEq σ] (c : σ → σ → Option Int) (l : List σ) : Decidable (goodCmp c l) := by unfold goodCmp; infer_instance
def sortG {σ : Type} [DecidableEq σ] (c : σ → σ → Option Int) (l : List σ) : Option (List σ) := bif decide (goodCmp c l) then some (l.mergeSort fun x y => !decide ((c y x).getD 0 < 0)) else none
theorem sortG_ok {σ : Type} [DecidableEq σ] {c : σ → σ → Option Int} {l : List σ} (h : goodCmp c l) : sortG c l = some (l.mergeSort fun x y => !decide ((c y x).getD 0 < 0)) := by
  unfold sortG; rw [decide_eq_true h]; rfl
theorem sortG_some {σ : Type} [DecidableEq σ] {c : σ → σ → Option Int} {l r : List σ} (h : sortG c l = some r) : goodCmp c l ∧ r = l.mergeSort fun x y => !decide ((c y x).getD 0 < 0) := by
  unfold sortG at h
  by_cases hg : goodCmp c l
  · rw [decide_eq_true hg] at h; exact ⟨hg, (Option.some.inj h).symm⟩
  · rw [decide_eq_false hg] at h; cases h
theorem good_swo {σ : Type} {c : σ → σ → Option Int} {l : List σ} (h : goodCmp c l) : Sort.SWO (Proofs.ltOf fun x y : {x // x ∈ l} => (c x.1 y.1).getD 0) := by
  obtain ⟨-, -, -, h1, h2, h3, -⟩ := h
  refine ⟨fun x => decide_eq_false (h1 _ x.2), fun x y z a b => decide_eq_true (h2 _ x.2 _ y.2 _ z.2 (of_decide_eq_true a) (of_decide_eq_true b)), fun x y z a b => decide_eq_false (h3 _ x.2 _ y.2 _ z.2 (of_decide_eq_false a) (of_decide_eq_false b))⟩
theorem sortg_one {ρ : Go.Shelf.Ren} (L0 : Proofs.SlLaysF.n6 P ρ) {c : τ → τ → Option Int} {g : Nat} (hsz : GT.size P τ = 1) (eg : ∀ args w, (callFunc g args).run P w = .ok (.enter g args) w) (hE : sortG c l = some r)
    (hcmp : ∀ (W : World) (a b : Value) (x y : τ) (z : Int), GT.rd P W W.heap.size [a] x → GT.rd P W W.heap.size [b] y → c x y = some z → Calls P g #[a, b] W (Ret fun u w' => u = .int .i64 z ∧ W = w'))
    (H : St w0 L w [ownL P v l]) : Calls P (ρ.f 6) #[v, .func (.func g) #[] #[]] w (Ret fun u w' => u = .tuple #[] ∧ St w0 L w' [ownL P v r]) := by
  obtain ⟨hg, rfl⟩ := sortG_some hE
  refine sortf_one L0 hsz (fun x y => (c x y).getD 0) eg hg.1 hg.2.1 (good_swo hg) hg.2.2.2.2.2.2 (fun W a b x y ha hb hx hy => ?_) H
  obtain ⟨z, hz⟩ := Option.isSome_iff_exists.1 (hg.2.2.1 x hx y hy)
  have := hcmp W a b x y z ha hb hz
  rw [hz]
  exact this
theorem sortg_cells {ρ : Go.Shelf.Ren} (L0 : Proofs.SlLaysF0.n6 P ρ) {c : τ → τ → Option Int} {g : Nat} (aE : ∀ w, (isAgg (ρ.t 24)).run P w = .ok true w) (zE : ∀ w, (Go.sizeOf (ρ.t 24)).run P w = .ok (GT.size P τ) w) (eg : ∀ args w, (callFunc g args).run P w = .ok (.enter g args) w) (hE : sortG c l = some r)
    (hcmp : ∀ (W : World) (a b : List Value) (x y : τ) (z : Int), GT.rd P W W.heap.size a x → GT.rd P W W.heap.size b y → c x y = some z → Calls P g #[.agg a.toArray, .agg b.toArray] W fun e w' => e = .returned (.int .i64 z) ∧ ∃ q os', w' = Sort.grow (W.drewN q) os')
    (H : St w0 L w [ownL P v l]) : Calls P (ρ.f 6) #[v, .func (.func g) #[] #[]] w (Ret fun u w' => u = .tuple #[] ∧ St w0 L w' [ownL P v r]) := by
  obtain ⟨hg, rfl⟩ := sortG_some hE
  refine sortf_cells L0 aE zE (fun x y => (c x y).getD 0) eg hg.1 hg.2.1 (good_swo hg) hg.2.2.2.2.2.2 (fun W a b x y ha hb hx hy => ?_) H
  obtain ⟨z, hz⟩ := Option.isSome_iff_exists.1 (hg.2.2.1 x hx y hy)
  have := hcmp W a b x y z ha hb hz
  rw [hz]
  exact this
end
end Go.GL

namespace Go.GL
open Go Go.RowKit
section
variable {P : Program} {σ : Type} [GT P σ] [GT P (List σ)] {w0 w : World} {L : List Nat} {As R : List HP} {v u : Value} {S : List (List σ)} {x : List σ}
/-! ## 39. An inner slice taken out of an own slice -/
theorem SepL.pick {A : HP} {k : Nat} : ∀ {As : List HP} {fp : List Nat}, As[k]? = some A → SepL w As fp → ∃ f, A.holds w f ∧ f.Sublist fp := by
  induction k with
  | zero =>
    intro As fp hk h
    cases As with
    | nil => cases hk
    | cons B r =>
      simp only [List.getElem?_cons_zero, Option.some.injEq] at hk
      subst hk
      obtain ⟨f, g, hA, -, rfl⟩ := h
      exact ⟨f, hA, List.sublist_append_left ..⟩
  | succ k ih =>
    intro As fp hk h
    cases As with
    | nil => cases hk
    | cons B r =>
      obtain ⟨f, g, -, hr, rfl⟩ := h
      obtain ⟨f', h1, h2⟩ := ih hk hr
      exact ⟨f', h1, h2.trans (List.sublist_append_right ..)⟩
theorem St.pick {A : HP} {k : Nat} (h : St w0 L w As) (hk : As[k]? = some A) : St w0 L w [A] := by
  obtain ⟨fp, hs, hn, hb⟩ := h.sep
  obtain ⟨f, h1, h2⟩ := hs.pick hk
  exact ⟨h.os, h.tape, h.output, h.size, h.block, f, ⟨f, [], h1, rfl, by simp⟩, hn.sublist h2, fun b hb2 => hb b (h2.subset hb2)⟩
theorem trips_mem {T : List (Trip (List σ))} {i : Nat} (hi : i < T.length) : (T[i].2.2).Sublist (T.map (·.2.2)).flatten :=
  List.sublist_flatten_of_mem (List.mem_map.2 ⟨T[i], List.getElem_mem hi, rfl⟩)
theorem odL_inner (hod : ∀ {w : World} {cs : List Value} {l : List σ} {fp : List Nat}, GT.od P w cs l fp → odL P w cs l fp) (hsz : GT.size P (List σ) = 1) {i : Nat} {p : Addr} {fp : List Nat} (h : odL P w [v] S fp) (hpo : PO (GT.size P (List σ)) v i 0 p) (hx : S[i]? = some x) (hc : w.cell? (p.add 0) = some u) :
    ∃ f, odL P w [u] x f ∧ f.Sublist fp := by
  obtain ⟨v', xs, g, hv, hown, hall, rfl⟩ := h
  simp only [List.cons.injEq, and_true] at hv
  subst hv
  obtain ⟨T, hT, rfl, rfl, rfl⟩ := odAll_trips hall
  rcases hown.2 with ⟨rfl, hn0⟩ | ⟨blk, cap, cur, rfl, -, hblk, hnc, hcm, hcs, htk⟩
  · rw [List.eq_nil_of_length_eq_zero hn0] at hx; cases hx
  · obtain ⟨b, hb, rfl⟩ := hpo.nth
    simp only [Value.ownBlock, Option.some.injEq] at hb
    subst hb
    obtain ⟨hi, hxe⟩ := List.getElem?_eq_some_iff.1 hx
    rw [List.length_map] at hi
    rw [List.getElem_map] at hxe
    have hlen : ∀ y ∈ T.map (·.1), y.length = 1 := fun y hy => by obtain ⟨t, ht, rfl⟩ := List.mem_map.1 hy; rw [← hsz]; exact GT.od_len (hT t ht)
    have hcell := flat_get (k := 1) (by omega) hlen i (by rw [List.length_map]; omega)
    rw [Nat.div_one, Nat.mod_one, List.getElem?_map, List.getElem?_eq_getElem hi, Option.map_some, Option.bind_some] at hcell
    rw [← htk, List.getElem?_take_of_lt (by rw [List.length_map, hsz]; omega), Array.getElem?_toList] at hcell
    rw [hsz, Nat.mul_one, Nat.add_zero] at hc
    have hadd : (⟨blk, i, none⟩ : Addr).add 0 = ⟨blk, i, none⟩ := by simp [Addr.add]
    rw [hadd] at hc
    simp only [World.cell?, hblk, Option.isSome_none, Bool.false_eq_true, if_false] at hc
    rw [hc] at hcell
    have h1 : T[i].1 = [u] := by
      have := hlen T[i].1 (List.mem_map.2 ⟨_, List.getElem_mem hi, rfl⟩)
      obtain ⟨a, ha⟩ := List.length_eq_one_iff.1 this
      rw [ha] at hcell ⊢
      simp only [List.getElem?_cons_zero, Option.some.injEq] at hcell
      rw [hcell]
    refine ⟨T[i].2.2, hod ?_, (trips_mem hi).trans (List.sublist_append_right ..)⟩
    have := hT T[i] (List.getElem_mem hi)
    rw [h1, hxe] at this
    exact this
theorem St.inner (hod : ∀ {w : World} {cs : List Value} {l : List σ} {fp : List Nat}, GT.od P w cs l fp → odL P w cs l fp) (hsz : GT.size P (List σ) = 1) {k i : Nat} {p : Addr} (H : St w0 L w As) (hk : As[k]? = some (ownL P v S)) (hpo : PO (GT.size P (List σ)) v i 0 p) (hx : S[i]? = some x) (hc : w.cell? (p.add 0) = some u) :
    St w0 L w (As.set k (ownL P u x)) :=
  H.upd hk rfl rfl rfl (Nat.le_refl _) fun fp hA hnd _ => by
    obtain ⟨f, h1, h2⟩ := odL_inner hod hsz hA hpo hx hc
    exact ⟨f, h1, hnd.sublist h2, fun b hb => .inl (h2.subset hb), fun _ _ _ => rfl⟩
end
end Go.GL

namespace Go.GL
open Go Go.RowKit
section
variable {P : Program} {σ : Type} [GT P σ] [GT P (List σ)] {w0 w : World} {L : List Nat} {As R : List HP} {v u : Value} {S : List (List σ)} {x : List σ}
/-! ## 40. An own slice of slices, one of which stands beside it -/
def holeH (P : Program) {σ : Type} [GT P (List σ)] (v : Value) (S : List (List σ)) (i : Nat) (u : Value) (w : World) (fp : List Nat) : Prop :=
  ∃ (T1 T2 : List (Trip (List σ))) (x0 : List σ) (blk cap : Nat) (cur : Array Value), S = T1.map (·.2.1) ++ x0 :: T2.map (·.2.1) ∧ T1.length = i ∧ v = .slice (some ⟨blk, 0, none⟩) S.length cap ∧ tripOk P w T1 ∧ tripOk P w T2 ∧
    w.heap[blk]? = some (.cells cur (GT.tid P (List σ)) (0, 0)) ∧ S.length ≤ cap ∧ cap ≤ maxLen ∧ cur.size = cap * GT.size P (List σ) ∧ cur.toList.take (S.length * GT.size P (List σ)) = (T1.map (·.1)).flatten ++ ([u] ++ (T2.map (·.1)).flatten) ∧ fp = blk :: ((T1.map (·.2.2)).flatten ++ (T2.map (·.2.2)).flatten)
theorem mem_fps {T : List (Trip (List σ))} {t : Trip (List σ)} (h : t ∈ T) {b : Nat} (hb : b ∈ t.2.2) : b ∈ (T.map (·.2.2)).flatten := List.mem_flatten.2 ⟨t.2.2, List.mem_map.2 ⟨t, h, rfl⟩, hb⟩
def holeL (P : Program) {σ : Type} [GT P σ] [GT P (List σ)] (v : Value) (S : List (List σ)) (i : Nat) (u : Value) : HP := ⟨holeH P v S i u, fun {w w' fp} hk h => by
  obtain ⟨T1, T2, x0, blk, cap, cur, h1, h2, h3, h4, h5, h6, h7, h8, h9, h10, rfl⟩ := h
  exact ⟨T1, T2, x0, blk, cap, cur, h1, h2, h3, fun t ht => GT.od_keep (fun b hb => hk b (List.mem_cons_of_mem _ (List.mem_append_left _ (mem_fps ht hb)))) (h4 t ht), fun t ht => GT.od_keep (fun b hb => hk b (List.mem_cons_of_mem _ (List.mem_append_right _ (mem_fps ht hb)))) (h5 t ht), (hk blk (List.mem_cons_self ..)).trans h6, h7, h8, h9, h10, rfl⟩⟩
theorem St.open_inner (hod : ∀ {w : World} {cs : List Value} {l : List σ} {fp : List Nat}, GT.od P w cs l fp → odL P w cs l fp) (hsz : GT.size P (List σ) = 1) {i : Nat} {p : Addr} (H : St w0 L w (ownL P v S :: R)) (hpo : PO (GT.size P (List σ)) v i 0 p) (hx : S[i]? = some x) (hc : w.cell? (p.add 0) = some u) :
    St w0 L w (holeL P v S i u :: ownL P u x :: R) := by
  obtain ⟨fp, hs, hn, hb⟩ := H.sep
  obtain ⟨f, g, hA, hR, rfl⟩ := hs
  obtain ⟨v', xs, g', hv, hown, hall, rfl⟩ := hA
  simp only [List.cons.injEq, and_true] at hv
  subst hv
  obtain ⟨T, hT, rfl, rfl, rfl⟩ := odAll_trips hall
  rcases hown.2 with ⟨rfl, hn0⟩ | ⟨blk, cap, cur, rfl, -, hblk, hnc, hcm, hcs, htk⟩
  · rw [List.eq_nil_of_length_eq_zero hn0] at hx; cases hx
  · obtain ⟨b, hb1, rfl⟩ := hpo.nth
    simp only [Value.ownBlock, Option.some.injEq] at hb1
    subst hb1
    obtain ⟨hi, hxe⟩ := List.getElem?_eq_some_iff.1 hx
    rw [List.length_map] at hi
    rw [List.getElem_map] at hxe
    have hlen : ∀ y ∈ T.map (·.1), y.length = 1 := fun y hy => by obtain ⟨t, ht, rfl⟩ := List.mem_map.1 hy; rw [← hsz]; exact GT.od_len (hT t ht)
    have hcell := flat_get (k := 1) (by omega) hlen i (by rw [List.length_map]; omega)
    rw [Nat.div_one, Nat.mod_one, List.getElem?_map, List.getElem?_eq_getElem hi, Option.map_some, Option.bind_some] at hcell
    rw [← htk, List.getElem?_take_of_lt (by rw [List.length_map, hsz]; omega), Array.getElem?_toList] at hcell
    rw [hsz, Nat.mul_one, Nat.add_zero] at hc
    have hadd : (⟨blk, i, none⟩ : Addr).add 0 = ⟨blk, i, none⟩ := by simp [Addr.add]
    rw [hadd] at hc
    simp only [World.cell?, hblk, Option.isSome_none, Bool.false_eq_true, if_false] at hc
    rw [hc] at hcell
    have h1 : T[i].1 = [u] := by
      have := hlen T[i].1 (List.mem_map.2 ⟨_, List.getElem_mem hi, rfl⟩)
      obtain ⟨a, ha⟩ := List.length_eq_one_iff.1 this
      rw [ha] at hcell ⊢
      simp only [List.getElem?_cons_zero, Option.some.injEq] at hcell
      rw [hcell]
    have hsp : T = T.take i ++ T[i] :: T.drop (i + 1) := by rw [← List.drop_eq_getElem_cons hi, List.take_append_drop]
    have hfp : (T.map (·.2.2)).flatten = ((T.take i).map (·.2.2)).flatten ++ (T[i].2.2 ++ ((T.drop (i + 1)).map (·.2.2)).flatten) := by
      conv => lhs; rw [hsp]
      rw [List.map_append, List.flatten_append, List.map_cons, List.flatten_cons]
    have hperm : ((blk :: (((T.take i).map (·.2.2)).flatten ++ ((T.drop (i + 1)).map (·.2.2)).flatten)) ++ (T[i].2.2 ++ g)).Perm ((Value.slice (some ⟨blk, 0, none⟩) (T.map (·.2.1)).length cap).ownBlock.toList ++ (T.map (·.2.2)).flatten ++ g) := by
      show List.Perm _ ((blk :: (T.map (·.2.2)).flatten) ++ g)
      rw [hfp, List.cons_append, List.cons_append]
      refine List.Perm.cons _ ?_
      rw [List.append_assoc, List.append_assoc]
      refine List.Perm.append_left _ ?_
      rw [← List.append_assoc]
      exact List.Perm.append_right _ List.perm_append_comm
    refine ⟨H.os, H.tape, H.output, H.size, H.block, (blk :: (((T.take i).map (·.2.2)).flatten ++ ((T.drop (i + 1)).map (·.2.2)).flatten)) ++ (T[i].2.2 ++ g), ⟨_, _, ?_, ⟨_, _, ?_, hR, rfl⟩, rfl⟩, hperm.nodup_iff.2 hn, fun b hb2 => hb b (hperm.mem_iff.1 hb2)⟩
    · refine ⟨T.take i, T.drop (i + 1), T[i].2.1, blk, cap, cur, ?_, by rw [List.length_take]; omega, rfl, fun t ht => hT t (List.mem_of_mem_take ht), fun t ht => hT t (List.mem_of_mem_drop ht), hblk, hnc, hcm, hcs, ?_, rfl⟩
      · conv => lhs; rw [hsp]
        rw [List.map_append, List.map_cons]
      · rw [htk]
        conv => lhs; rw [hsp]
        rw [List.map_append, List.flatten_append, List.map_cons, List.flatten_cons, h1]
    · refine hod ?_
      have := hT T[i] (List.getElem_mem hi)
      rw [h1, hxe] at this
      exact this
theorem St.close_inner (hdo : ∀ {w : World} {cs : List Value} {l : List σ} {fp : List Nat}, odL P w cs l fp → GT.od P w cs l fp) {i : Nat} (H : St w0 L w (holeL P v S i u :: ownL P u x :: R)) (hx : S[i]? = some x) : St w0 L w (ownL P v S :: R) := by
  obtain ⟨fp, hs, hn, hb⟩ := H.sep
  obtain ⟨f, g1, hA, ⟨fx, g, hX, hR, rfl⟩, rfl⟩ := hs
  obtain ⟨T1, T2, x0, blk, cap, cur, rfl, rfl, rfl, h4, h5, h6, h7, h8, h9, h10, rfl⟩ := hA
  have hx0 : x0 = x := by
    rw [List.getElem?_append_right (by rw [List.length_map]; omega), List.length_map, Nat.sub_self, List.getElem?_cons_zero] at hx
    exact Option.some.inj hx
  subst hx0
  have hmap : (T1 ++ (([u], x0, fx) : Trip (List σ)) :: T2).map (·.2.1) = T1.map (·.2.1) ++ x0 :: T2.map (·.2.1) := by rw [List.map_append, List.map_cons]
  have hT : tripOk P w (T1 ++ (([u], x0, fx) : Trip (List σ)) :: T2) := fun t ht => by
    rcases List.mem_append.1 ht with h | h
    · exact h4 t h
    · rcases List.mem_cons.1 h with rfl | h
      · exact hdo hX
      · exact h5 t h
  have hperm : ((blk :: ((T1.map (·.2.2)).flatten ++ (T2.map (·.2.2)).flatten)) ++ (fx ++ g)).Perm ((blk :: ((T1 ++ (([u], x0, fx) : Trip (List σ)) :: T2).map (·.2.2)).flatten) ++ g) := by
    rw [List.map_append, List.flatten_append, List.map_cons, List.flatten_cons, List.cons_append, List.cons_append]
    refine List.Perm.cons _ ?_
    rw [List.append_assoc, List.append_assoc]
    refine List.Perm.append_left _ ?_
    rw [← List.append_assoc]
    exact List.Perm.append_right _ List.perm_append_comm
  refine ⟨H.os, H.tape, H.output, H.size, H.block, (blk :: ((T1 ++ (([u], x0, fx) : Trip (List σ)) :: T2).map (·.2.2)).flatten) ++ g, ⟨_, _, ⟨_, ((T1 ++ (([u], x0, fx) : Trip (List σ)) :: T2).map (·.1)).flatten, _, rfl, ?_, ?_, rfl⟩, hR, rfl⟩, hperm.nodup_iff.1 hn, fun b hb2 => hb b (hperm.mem_iff.2 hb2)⟩
  · refine ⟨?_, .inr ⟨blk, cap, cur, rfl, Nat.zero_le _, h6, h7, h8, h9, ?_⟩⟩
    · rw [trips_len hT, ← hmap, List.length_map]
    · rw [h10, List.map_append, List.flatten_append, List.map_cons, List.flatten_cons]
  · have := odAll_of_trips hT
    rw [hmap] at this
    exact this
end
end Go.GL

namespace Go.GL
open Go Go.RowKit
section
variable {P : Program} {N : Nat} {Q : Exit → Act → World → Prop} {env : Env} {w wq : World} {ops : Array Oper} {rest : List Oper}
  {d : Nat} {t ty : TypeId} {pos : String} {af : Array Edge} {α : Type} [GT P α]
/-- a slice that is nil just if it has no elements, held against nil -/
theorem r_slnil {x y : Operand} {xt yt e : TypeId} {n' c' B : Nat} {v : Value} {l : List α} (ht : slB P xt e = true) (hN : Nat.blt d N = true) (hr : rdL P wq B [v] l) (hn : l = [] → v = .slice none 0 0) (hx : ev env x = some v) (hy : ev env y = some (.slice none n' c'))
    (h : rwp P N ops Q rest ((d, .bool (List.isEmpty l)) :: env) w) : rwp P N ops Q (⟨some d, .binOp .eql xt x y yt, t, pos, af, none⟩ :: rest) env w := by
  rcases rdL_nilcase hr with ⟨rfl, rfl⟩ | ⟨a, c, rfl⟩
  · exact r_sleq ht hN hx hy h
  · have hne : List.isEmpty l = false := by
      cases l with
      | nil => have := hn rfl; simp at this
      | cons => rfl
    rw [hne] at h
    exact r_sleq ht hN hx hy h
theorem r_slneq {x y : Operand} {xt yt e : TypeId} {a : Option Addr} {n c n' c' : Nat} (ht : slB P xt e = true) (hN : Nat.blt d N = true) (hx : ev env x = some (.slice a n c)) (hy : ev env y = some (.slice none n' c'))
    (h : rwp P N ops Q rest ((d, .bool (!a.isNone)) :: env) w) : rwp P N ops Q (⟨some d, .binOp .neq xt x y yt, t, pos, af, none⟩ :: rest) env w :=
  r_bin hN hx hy (by simp [eqGuard]) (by
    have hu := slB_spec ht
    simp only [binOp]
    simp [Op.equal, Op.maxDepth, Lib.run_equalIn_slice_nil w 9999 xt e a n c n' c' hu]) h
theorem r_slnnil {x y : Operand} {xt yt e : TypeId} {n' c' B : Nat} {v : Value} {l : List α} (ht : slB P xt e = true) (hN : Nat.blt d N = true) (hr : rdL P wq B [v] l) (hn : l = [] → v = .slice none 0 0) (hx : ev env x = some v) (hy : ev env y = some (.slice none n' c'))
    (h : rwp P N ops Q rest ((d, .bool (!List.isEmpty l)) :: env) w) : rwp P N ops Q (⟨some d, .binOp .neq xt x y yt, t, pos, af, none⟩ :: rest) env w := by
  rcases rdL_nilcase hr with ⟨rfl, rfl⟩ | ⟨a, c, rfl⟩
  · exact r_slneq ht hN hx hy h
  · have hne : List.isEmpty l = false := by
      cases l with
      | nil => have := hn rfl; simp at this
      | cons => rfl
    rw [hne] at h
    exact r_slneq ht hN hx hy h
end
end Go.GL

namespace Go.GL
open Go Go.RowKit
/-! ## 41. A table of the library's, as its initialiser lays it -/
theorem tab_on {P : Program} {w w' : World} {name : String} {k : IntKind} {zs : List Int} (h : Go.Lib.TabIs P w name k zs) (hb : Below w.heap.size w w') : Go.Lib.TabIs P w' name k zs := Go.Lib.tabBelow_of_tabIs h w' hb
theorem st_grew (w : World) (k : Nat) (os : Array Obj) : St w [] (Sort.grow (w.drewN k) os) [] :=
  ⟨rfl, rfl, rfl, by show w.heap.size ≤ (w.heap ++ os).size; rw [Array.size_append]; omega, fun b hb _ => by
    show (w.heap ++ os)[b]? = w.heap[b]?
    rw [Array.getElem?_append_left hb], [], rfl, List.nodup_nil, fun b hb => by cases hb⟩
theorem fmt_ret {P : Program} {fn : FuncId} {args : Array Value} {w : World} {l : Bytes} (h : Calls P fn args w fun e w' => e = .returned (.string ⟨l.toArray⟩) ∧ ∃ k os, w' = Sort.grow (w.drewN k) os) :
    Calls P fn args w (Ret fun v w' => v = .string (BS l) ∧ St w [] w' []) :=
  Calls.mono h fun e w' he => by
    obtain ⟨rfl, k, os, rfl⟩ := he
    exact ⟨rfl, st_grew w k os⟩
end Go.GL

namespace Go.GL
open Go Go.RowKit
/-! ## 42. A region that draws its order: what is owed to those that look at memory, asked from a later world on -/
theorem anyW_mono {P : Program} {ops : Array Oper} {Q : Exit → Act → World → Prop} {S S1 : World → Prop} {W : Nat → Bool} (hS : ∀ w, S1 w → S w) : ∀ (fuel : Nat) (listed : Array Bool) (a : Act) (w : World), anyW P ops Q S1 W fuel listed a w → anyW P ops Q S W fuel listed a w := by
  intro fuel
  induction fuel with
  | zero => intro listed a w h; exact h
  | succ n ih => intro listed a w h; exact ⟨h.1, fun i hi => wpOp_mono (fun a' w' hh => ⟨fun hn => hS _ (hh.1 hn), ih _ a' w' hh.2⟩) (h.2 i hi)⟩
theorem w_re {P : Program} {N : Nat} {Q : Exit → Act → World → Prop} {env : Env} {w : World} {ops : Array Oper} {S : World → Prop} {W : Nat → Bool} {fuel : Nat} {listed : Array Bool} (S1 : World → Prop) (hS : ∀ w1, S1 w1 → S w1) (h : awpW P N ops Q S1 W fuel listed env w) : awpW P N ops Q S W fuel listed env w :=
  fun a ha => anyW_mono hS _ _ _ _ (h a ha)
end Go.GL

namespace Go.GL
open Go Go.RowKit
/-! ## 43. A slice that is nil just if it has no elements -/
section
variable {P : Program} {w w' w0 : World} {L : List Nat} {As R : List HP} {α : Type} [GT P α]
def ownN (P : Program) {α : Type} [GT P α] (v : Value) (l : List α) : HP := ⟨fun w fp => odL P w [v] l fp ∧ (l = [] → v = .slice none 0 0), fun hk h => ⟨odL_keep hk h.1, h.2⟩⟩
theorem St.nilN {v : Value} {l : List α} {k : Nat} (h : St w0 L w As) (hk : As[k]? = some (ownN P v l)) : l = [] → v = .slice none 0 0 := by
  obtain ⟨fp, ho, -⟩ := h.get hk
  exact ho.2
theorem St.rdlN {v : Value} {l : List α} {k : Nat} (h : St w0 L w As) (hk : As[k]? = some (ownN P v l)) : rdL P w w.heap.size [v] l := by
  obtain ⟨fp, ho, hb⟩ := h.get hk
  exact odL_rd ho.1 hb
theorem St.toN {v : Value} {l : List α} (h : St w0 L w (ownL P v l :: R)) (hn : l = [] → v = .slice none 0 0) : St w0 L w (ownN P v l :: R) := h.map fun _ ho => ⟨ho, hn⟩
theorem St.unN {v : Value} {l : List α} (h : St w0 L w (ownN P v l :: R)) : St w0 L w (ownL P v l :: R) := h.map fun _ ho => ho.1
theorem St.addnilN (h : St w0 L w As) (P : Program) (α : Type) [GT P α] : St w0 L w (As ++ [ownN P (.slice none 0 0) ([] : List α)]) :=
  h.ext ⟨rfl, rfl, rfl, Nat.le_refl _, fun _ _ _ => rfl, [], ⟨[], [], ⟨⟨_, [], [], rfl, World.ownsRow_nil w 0 _ _, ⟨rfl, rfl⟩, rfl⟩, fun _ => rfl⟩, rfl, rfl⟩, List.nodup_nil, fun b hb => by cases hb⟩
theorem nilN_of {v : Value} {l : List α} (hg : (!List.isEmpty l) = true) : l = [] → v = .slice none 0 0 := fun h => by subst h; cases hg
end
end Go.GL

namespace Go.GL
open Go Go.RowKit Go.Proofs Go.Shelf
/-! ## 44. Parts of strings in a region that draws its order; errors; the library's searches -/
section
variable {P : Program} {N : Nat} {Q : Exit → Act → World → Prop} {env : Env} {w w' w0 wq : World} {ops : Array Oper} {rest : List Oper}
  {d : Nat} {t ty : TypeId} {pos : String} {af : Array Edge} {gd : Option (Nat × Bool)} {L : List Nat} {As R : List HP}
theorem x_ssl_yy {x y z : Operand} {xt : TypeId} {a : Bytes} {i j : Int} {k k' : IntKind} (ht : P.underlying xt = some .string) (hx : ev env x = some (.string (BS a))) (hi : ev env y = some (.int k i)) (hj : ev env z = some (.int k' j)) (hb : 0 ≤ i ∧ i ≤ j ∧ j ≤ (a.length : Int)) :
    X P N env w ⟨some d, .slice xt x (some y) (some z) none, ty, pos, af, gd⟩ (.string (BS ((a.take j.toNat).drop i.toNat))) := by
  intro b hb'
  have h1 : (0 : Int) ≤ j := by omega
  have h2 : j ≤ ((BS a).size : Int) := by rw [BS_size]; exact hb.2.2
  have h3 : i ≤ (j.toNat : Int) := by omega
  simp [execOp, hb'.eval hx, hb'.eval hi, hb'.eval hj, Instr.sliceAt, Instr.slice, run_underlying ht, Instr.sliceBounds, Instr.sliceBound, asIntOf, h1, h2, hb.1, BS_extract]
  intro hlt; exfalso; omega
theorem x_ssl_yn {x y : Operand} {xt : TypeId} {a : Bytes} {i : Int} {k : IntKind} (ht : P.underlying xt = some .string) (hx : ev env x = some (.string (BS a))) (hi : ev env y = some (.int k i)) (hb : 0 ≤ i ∧ i ≤ (a.length : Int) ∧ (a.length : Int) ≤ (a.length : Int)) :
    X P N env w ⟨some d, .slice xt x (some y) none none, ty, pos, af, gd⟩ (.string (BS ((a.take (a.length : Int).toNat).drop i.toNat))) := by
  intro b hb'
  have h3 : i ≤ ((BS a).size : Int) := by rw [BS_size]; exact hb.2.1
  simp [execOp, hb'.eval hx, hb'.eval hi, Instr.sliceAt, Instr.slice, run_underlying ht, Instr.sliceBounds, Instr.sliceBound, asIntOf, hb.1, BS_extract, BS_size]
  intro hlt; exfalso; omega
theorem x_ssl_ny {x z : Operand} {xt : TypeId} {a : Bytes} {j : Int} {k : IntKind} (ht : P.underlying xt = some .string) (hx : ev env x = some (.string (BS a))) (hj : ev env z = some (.int k j)) (hb : (0 : Int) ≤ 0 ∧ 0 ≤ j ∧ j ≤ (a.length : Int)) :
    X P N env w ⟨some d, .slice xt x none (some z) none, ty, pos, af, gd⟩ (.string (BS ((a.take j.toNat).drop (0 : Int).toNat))) := by
  intro b hb'
  have h2 : j ≤ ((BS a).size : Int) := by rw [BS_size]; exact hb.2.2
  simp [execOp, hb'.eval hx, hb'.eval hj, Instr.sliceAt, Instr.slice, run_underlying ht, Instr.sliceBounds, Instr.sliceBound, asIntOf, hb.2.1, h2, BS_extract]
theorem w_startSW {id : Nat} {l : List Oper} (S : World → Prop) (W : Nat → Bool) (hm : P.follows .mixedOrders = true) (h : ∀ w', Below w.heap.size w w' → awpW P N l.toArray Q S W l.toArray.size (Array.replicate l.toArray.size false) env w') :
    cwp P N (.region id l.toArray true) Q env w := fun a ha => wp_region_any hm (anyW_sound _ _ _ _ (h _ (below_drew w) a ha))
/-- an error: nil or not -/
def ErrV (v : Value) (b : Bool) : Prop := (b = false ∧ v = .nilIface) ∨ (b = true ∧ ∃ t x, v = .iface t x)
def errA (v : Value) (b : Bool) : HP := ⟨fun _ fp => fp = [] ∧ ErrV v b, fun _ h => h⟩
theorem St.errv {v : Value} {b : Bool} {k : Nat} (h : St w0 L w As) (hk : As[k]? = some (errA v b)) : ErrV v b := by
  obtain ⟨fp, ho, -⟩ := h.get hk
  exact ho.2
theorem r_ennil {x : Operand} {xt yt : TypeId} {v : Value} {b : Bool} (ht : P.underlying xt = some (.interface (P.methodsAt xt))) (hN : Nat.blt d N = true) (he : ErrV v b) (hx : ev env x = some v)
    (h : rwp P N ops Q rest ((d, .bool b) :: env) w) : rwp P N ops Q (⟨some d, .binOp .neq xt x (.const .nilIface) yt, t, pos, af, none⟩ :: rest) env w := by
  rcases he with ⟨rfl, rfl⟩ | ⟨rfl, u, y, rfl⟩
  · exact r_bin hN hx rfl (by simp [eqGuard]) (by simp [binOp, Op.equal, Op.maxDepth, run_equalIn_nil_nil _ _ _ ht]) h
  · exact r_bin hN hx rfl (by simp [eqGuard]) (by simp [binOp, Op.equal, Op.maxDepth, run_equalIn_held_nil _ _ _ _ _ ht]) h
theorem r_enil {x : Operand} {xt yt : TypeId} {v : Value} {b : Bool} (ht : P.underlying xt = some (.interface (P.methodsAt xt))) (hN : Nat.blt d N = true) (he : ErrV v b) (hx : ev env x = some v)
    (h : rwp P N ops Q rest ((d, .bool (!b)) :: env) w) : rwp P N ops Q (⟨some d, .binOp .eql xt x (.const .nilIface) yt, t, pos, af, none⟩ :: rest) env w := by
  rcases he with ⟨rfl, rfl⟩ | ⟨rfl, u, y, rfl⟩
  · exact r_bin hN hx rfl (by simp [eqGuard]) (by simp [binOp, Op.equal, Op.maxDepth, run_equalIn_nil_nil _ _ _ ht]) h
  · exact r_bin hN hx rfl (by simp [eqGuard]) (by simp [binOp, Op.equal, Op.maxDepth, run_equalIn_held_nil _ _ _ _ _ ht]) h
end
/-- the two variables that strconv's errors name -/
def ErrVars (P : Program) (w : World) : Prop := (∃ t p, w.var? P "strconv.ErrSyntax" = some #[.iface t p]) ∧ ∃ t p, w.var? P "strconv.ErrRange" = some #[.iface t p]
theorem var_on {P : Program} {w w' : World} {n : String} {cs : Array Value} (h : w.var? P n = some cs) (hb : Below w.heap.size w w') : w'.var? P n = some cs := by
  unfold World.var? at *
  cases hg : P.globalNamed n with
  | none => rw [hg] at h; cases h
  | some g =>
    rw [hg, Option.bind_some] at h
    rw [Option.bind_some]
    have hlt : g < w.heap.size := by
      rcases Nat.lt_or_ge g w.heap.size with h1 | h1
      · exact h1
      · rw [Array.getElem?_eq_none h1] at h; cases h
    rw [hb.block g hlt]
    exact h
theorem errv_on {P : Program} {w w' : World} (h : ErrVars P w) (hb : Below w.heap.size w w') : ErrVars P w' := by
  obtain ⟨⟨t, p, h1⟩, u, q, h2⟩ := h
  exact ⟨⟨t, p, var_on h1 hb⟩, u, q, var_on h2 hb⟩
/-- what strconv.ParseInt(s, 10, 64) returns: the number, and whether there is an error -/
def pint (l : Bytes) : Int × Bool :=
  match Lib.parseIntB 64 l with
  | .ok v => (v, false)
  | .range => (Lib.intSat 64 l, true)
  | _ => (0, true)
theorem st_err {w w' : World} {v : Value} {b : Bool} (hb : Below w.heap.size w w') (he : ErrV v b) : St w [] w' [errA v b] :=
  ((St.start w).grow hb).ext ⟨rfl, rfl, rfl, Nat.le_refl _, fun _ _ _ => rfl, [], ⟨[], [], ⟨rfl, he⟩, rfl, rfl⟩, List.nodup_nil, fun b hb => by cases hb⟩
theorem parse_ret {P : Program} {ρ : Ren} (La : LaysC.n174 P ρ) (s : Bytes) (hl : s.length ≤ 281474976710656) (w : World) (hV : ErrVars P w) :
    Calls P (ρ.f 174) #[.string (BS s), .int .i64 10, .int .i64 64] w (Ret fun v w' => ∃ e : Value, v = .tuple #[.int .i64 (pint s).1, e] ∧ St w [] w' [errA e (pint s).2]) := by
  have hsz : (BS s).size = s.length := BS_size s
  have hd : (BS s).data.toList = s := by simp [BS]
  obtain ⟨⟨t1, p1, hs⟩, t2, p2, hr⟩ := hV
  unfold pint
  cases hp : Lib.parseIntB 64 s with
  | ok v =>
    refine (Any.strconv_ParseInt_10_at64_ok La (BS s) (by rw [hsz]; omega) v (by rw [hd]; exact hp) w).mono fun e w' he => ?_
    obtain ⟨rfl, he⟩ := he
    refine ⟨_, rfl, st_err ?_ (.inl ⟨rfl, rfl⟩)⟩
    rcases he with rfl | ⟨t, rfl⟩
    · exact Below.refl _ _
    · exact Lib.bytesWorld_below _ _ _
  | range =>
    refine (Any.strconv_ParseInt_10_at64_range_var La (BS s) (by rw [hsz]; omega) (by rw [hd]; exact hp) t2 p2 w hr).mono fun e w' he => ?_
    obtain ⟨M, rfl, -, -, hb⟩ := he
    rw [hd]
    exact ⟨_, rfl, st_err hb (.inr ⟨rfl, _, _, rfl⟩)⟩
  | _ =>
    refine (Any.strconv_ParseInt_10_at64_syntax_var La (BS s) (by rw [hsz]; omega) (by rw [hd]; exact hp) t1 p1 w hs).mono fun e w' he => ?_
    obtain ⟨M, rfl, -, -, hb⟩ := he
    exact ⟨_, rfl, st_err hb (.inr ⟨rfl, _, _, rfl⟩)⟩
theorem quiet_ret {P : Program} {fn : FuncId} {args : Array Value} {w : World} {r : Int} (h : Calls P fn args w fun e w' => e = .returned (.int .i64 r) ∧ w' = w) : Calls P fn args w (Ret fun v w' => v = .int .i64 r ∧ w = w') :=
  h.mono fun e w' he => by obtain ⟨rfl, rfl⟩ := he; exact ⟨rfl, rfl⟩
theorem count_ret {P : Program} {ρ : Ren} (La : Lays.n138 P ρ) (s : Bytes) (c : UInt8) (w : World) : Calls P (ρ.f 138) #[.string (BS s), .string (BS [c])] w (Ret fun v w' => v = .int .i64 ((s.count c : Nat) : Int) ∧ w = w') := by
  have h := Any.strings_Count_one La (BS s) c w
  have hd : (BS s).data.toList = s := by simp [BS]
  rw [hd] at h
  exact quiet_ret h
theorem index_ret {P : Program} {ρ : Ren} (La : Lays.n219 P ρ) (s : Bytes) (c : UInt8) (w : World) : Calls P (ρ.f 219) #[.string (BS s), .string (BS [c])] w (Ret fun v w' => v = .int .i64 (Lib.indexByte s c) ∧ w = w') := by
  have h := Any.stringslite_Index_one La (BS s) c w
  have hd : (BS s).data.toList = s := by simp [BS]
  rw [hd] at h
  exact quiet_ret h
end Go.GL
