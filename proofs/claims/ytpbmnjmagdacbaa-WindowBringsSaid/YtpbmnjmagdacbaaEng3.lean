/- The same for operations that read, write, make memory or call. -/
import Derived.Test.YtpbmnjmagdacbaaEng2
import Derived.Laws.World
namespace Go.Eng
open Go

section
variable {P : Program} {T : Nat → Option TI}

theorem Leaf.ex_some {l : Leaf} {K : Value → Prop} (h : l.ex K) : ∃ v, K v := by
  cases l <;> simp only [Leaf.ex] at h
  case slice => obtain ⟨a, b, c, h⟩ := h; exact ⟨_, h⟩
  all_goals (obtain ⟨a, h⟩ := h; exact ⟨_, h⟩)

theorem leavesEx_some {ls : List Leaf} : ∀ {K : List Value → Prop}, leavesEx ls K → ∃ vs, K vs := by
  induction ls with
  | nil => intro K h; exact ⟨_, h⟩
  | cons l r ih => intro K h; obtain ⟨v, h⟩ := Leaf.ex_some h; obtain ⟨vs, h⟩ := ih h; exact ⟨_, h⟩

theorem Sh.ex_some {s : Sh} {K : Value → Prop} (h : s.ex K) : ∃ v, K v := by
  cases s with
  | leaf l => exact Leaf.ex_some h
  | agg ls => obtain ⟨vs, h⟩ := leavesEx_some h; exact ⟨_, h⟩

theorem shsEx_some {ls : List Sh} : ∀ {K : List Value → Prop}, shsEx ls K → ∃ vs, K vs := by
  induction ls with
  | nil => intro K h; exact ⟨_, h⟩
  | cons l r ih => intro K h; obtain ⟨v, h⟩ := Sh.ex_some h; obtain ⟨vs, h⟩ := ih h; exact ⟨_, h⟩

theorem resEx_some {t : TypeId} {K : Value → Prop} (h : resEx T t K) : ∃ v, K v := by
  unfold resEx at h
  split at h
  · split at h
    · obtain ⟨vs, h⟩ := shsEx_some h; exact ⟨_, h⟩
    · exact Sh.ex_some h
  · exact h

theorem resEx_eq {t : TypeId} {v : Value} {w' : World} {K : Value → World → Prop} (h : resEx T t fun u => v = u ∧ K u w') : K v w' := by
  obtain ⟨u, rfl, h⟩ := resEx_some h
  exact h

theorem ldCells_sound {w : World} {a : Addr} {ls : List Leaf} : ∀ {i : Nat} {K : List Value → Prop}, ldCells w a i ls K → ∃ vs, vs.length = ls.length ∧ cellsAre w a i vs ∧ K vs := by
  induction ls with
  | nil => intro i K h; exact ⟨[], rfl, trivial, h⟩
  | cons l r ih =>
    intro i K h
    obtain ⟨v, hv, h⟩ := Leaf.ex_some h
    obtain ⟨vs, hl, hc, h⟩ := ih h
    refine ⟨v :: vs, by simp [hl], ?_, h⟩
    cases vs with
    | nil => exact hv
    | cons u us => exact ⟨hv, hc⟩

theorem cellsAre_head {w : World} {a : Addr} {i : Nat} {v : Value} {r : List Value} (h : cellsAre w a i (v :: r)) : w.cell? (a.add i) = some v ∧ cellsAre w a (i + 1) r := by
  cases r with
  | nil => exact ⟨h, trivial⟩
  | cons u us => exact h

theorem loadCellsFrom_run {w : World} {a : Addr} (vs : List Value) : ∀ (i : Nat) (acc : Array Value), cellsAre w a i vs → (loadCellsFrom a i vs.length acc).run P w = .ok (acc ++ vs.toArray) w := by
  induction vs with
  | nil => intro i acc h; simp [loadCellsFrom]
  | cons v r ih =>
    intro i acc h
    obtain ⟨hv, hr⟩ := cellsAre_head h
    simp only [List.length_cons, loadCellsFrom, Sem.run_bind, run_load, hv, Result.andThen_ok, ih _ _ hr]
    simp

theorem loadX_sound (hT : TOk P T) {t : TypeId} {a : Addr} {w : World} {K : Value → (World → Prop) → Prop} (h : loadX T t a w K) :
    ∃ v S, (∀ w', S w' → (loadVar t a).run P w' = .ok v w') ∧ S w ∧ K v S := by
  unfold loadX at h
  split at h
  · rename_i i hi
    obtain ⟨inf, d, h1, h2, rfl⟩ := tb_parts hT hi
    rcases cond_sat h with ⟨ha, h⟩ | ⟨ha, h⟩
    · split at h
      · rename_i ls _
        obtain ⟨hl, h⟩ := cond_left h
        have hl' := Nat.eq_of_beq_eq_true hl
        obtain ⟨vs, hlen, hc, h⟩ := ldCells_sound h
        refine ⟨_, _, fun w' hw' => ?_, hc, h⟩
        have ha' : aggOf d = true := ha
        have hs : inf.size = vs.length := by rw [hlen, hl']; rfl
        simp only [loadVar, Sem.run_bind, run_isAgg h2, Result.andThen_ok, ha', if_true, run_size h1, loadCells, hs, loadCellsFrom_run vs 0 #[] hw']
        simp
      · exact h.elim
    · split at h
      · rename_i l _
        obtain ⟨v, hv, h⟩ := Leaf.ex_some h
        refine ⟨v, _, fun w' hw' => ?_, hv, h⟩
        have ha' : aggOf d = false := ha
        simp [loadVar, run_isAgg h2, ha', hw']
      · exact h.elim
  · exact h.elim

theorem oneCell_eq (v : Value) : v.oneCell' = oneCell v := by cases v <;> rfl

theorem St_run {w : World} {a : Addr} {v : Value} {K : World → Prop} (h : St w a v K) : (store a v).run P w = .ok () (w.setCell a v) ∧ K (w.setCell a v) := by
  obtain ⟨⟨u, hu⟩, hf, ho, hK⟩ := h
  refine ⟨?_, hK⟩
  rw [run_store _ _ _ _ _ (by rw [oneCell_eq]; exact ho), hu]
  simp [hf]

theorem stCells_run (vs : List Value) : ∀ {w : World} {a : Addr} {i : Nat} {K : World → Prop}, stCells w a i vs K → ∃ w', (storeCells a vs i).run P w = .ok () w' ∧ K w' := by
  induction vs with
  | nil => intro w a i K h; exact ⟨w, rfl, h⟩
  | cons v r ih =>
    intro w a i K h
    obtain ⟨h1, h2⟩ := St_run (P := P) h
    obtain ⟨w', h3, h4⟩ := ih h2
    exact ⟨w', by simp [storeCells, h1, h3], h4⟩

theorem zeros_list (z : List Value) (len : Nat) :
    ((List.range (len * z.length)).map fun i => z.toArray[i % z.toArray.size]!) = (List.replicate len z).flatten := by
  induction len with
  | zero => simp
  | succ k ih =>
    have e : (k + 1) * z.length = k * z.length + z.length := by rw [Nat.add_mul, Nat.one_mul]
    rw [e, List.range_add, List.map_append, ih, List.replicate_succ', List.flatten_append]
    congr 1
    simp only [List.map_map, List.flatten_cons, List.flatten_nil, List.append_nil]
    apply List.ext_getElem
    · simp
    · intro i h1 h2
      have hm : (k * z.length + i) % z.length = i := by
        rw [Nat.mul_comm, Nat.mul_add_mod, Nat.mod_eq_of_lt (by simpa using h2)]
      have h3 : i < z.length := by simpa using h2
      simp [hm, h3]

theorem zerosX_sound (hT : TOk P T) {e : TypeId} {inf : TypeInfo} (hi : P.info? e = some inf) {n : Nat} {K : List Value → Prop} (h : zerosX T e n K) :
    ∃ z : Value, inf.zero = some z ∧ K (List.replicate n z.cells.toList).flatten := by
  unfold zerosX at h
  split at h
  · rename_i i hT'
    obtain ⟨inf', d, h1, h2, rfl⟩ := tb_parts hT hT'
    rw [hi] at h1
    cases h1
    split at h
    · rename_i z hz
      simp only [tiOf, Option.map_eq_some_iff] at hz
      obtain ⟨zv, hz, rfl⟩ := hz
      exact ⟨zv, hz, h⟩
    · exact h.elim
  · exact h.elim

/-- What an operation's run comes to. -/
def Outcome (P : Program) (Kp : List PanicEntry → World → Prop) (K : Value → World → Prop) : Result Next → Prop
  | .ok (.value v) w' => K v w'
  | .ok .skip w' => K undef w'
  | .ok (.enter f args) w' => Calls P f args w' fun | .returned v, w'' => K v w'' | .panicked ch, w'' => Kp ch w'' | .outgrown, _ => False
  | .halt (.panic v) w' => Kp [{ v, recovered := false }] w'
  | _ => False

theorem Prim_out {s : Sem Value} {w : World} {t : TypeId} {Kp : List PanicEntry → World → Prop} {K : Value → World → Prop}
    (h : Prim P s w fun v w' => resEx T t fun u => v = u ∧ K u w') : Outcome P Kp K ((do pure (Next.value (← s)) : Sem Next).run P w) := by
  obtain ⟨v, w', h1, h2⟩ := h
  simp only [Sem.run_bind, h1, Result.andThen_ok, Sem.run_pure, Outcome]
  exact resEx_eq h2

theorem PrimU_out {s : Sem Unit} {w : World} {Kp : List PanicEntry → World → Prop} {K : Value → World → Prop}
    (h : PrimU P s w fun w' => K undef w') : Outcome P Kp K ((do s; pure Next.skip : Sem Next).run P w) := by
  obtain ⟨w', h1, h2⟩ := h
  simp only [Sem.run_bind, h1, Result.andThen_ok, Sem.run_pure, Outcome]
  exact h2

theorem CallR_out {f : FuncId} {args : List Value} {w : World} {t : TypeId} {Kp : List PanicEntry → World → Prop} {K : Value → World → Prop}
    (h : CallR P f args w Kp fun v w' => resEx T t fun u => v = u ∧ K u w') : Outcome P Kp K (.ok (.enter f args.toArray) w) :=
  Calls.mono h fun e w' he => by cases e <;> first | exact resEx_eq he | exact he

def Bl (P : Program) (bl : Nat → Bool) : Prop := ∀ f, bl f = false → ∀ args w, (callFunc f args).run P w = .ok (.enter f args) w

theorem toArr {ev : Operand → Value} {args : Array Operand} : args.map ev = (args.toList.map ev).toArray := by apply Array.ext'; simp

theorem exec_value {ev : Operand → Value} {dst : Option Tmp} {fv : Operand} {args : Array Operand} {argTypes : Array TypeId} {type : TypeId} {pos : String} {after : Array Edge} {guard : Option (Nat × Bool)}
    {f : FuncId} {first cap : Array Value} (h : ev fv = .func (.func f) first cap) :
    execOp ev ⟨dst, .call ⟨.value fv, args, argTypes⟩, type, pos, after, guard⟩ = callFunc f (first ++ args.map ev ++ cap) := by
  simp only [execOp, resolve, h, Deferred.ofValue, pure_bind, invoke]

theorem exec_invoke {ev : Operand → Value} {dst : Option Tmp} {r : Operand} {name : String} {args : Array Operand} {argTypes : Array TypeId} {type : TypeId} {pos : String} {after : Array Edge} {guard : Option (Nat × Bool)} :
    execOp ev ⟨dst, .call ⟨.invoke r name, args, argTypes⟩, type, pos, after, guard⟩ = callMethod (ev r) name (args.map ev) := by
  have e : (#[ev r] ++ args.map ev).extract 1 (#[ev r] ++ args.map ev).size = args.map ev := by
    apply Array.ext'
    rw [Array.toList_extract]
    simp [List.extract, List.take_of_length_le]
  have e0 : (#[ev r] ++ args.map ev)[0]? = some (ev r) := by rw [← Array.getElem?_toList]; simp only [Array.toList_append, List.singleton_append, List.getElem?_cons_zero]
  simp only [execOp, resolve, pure_bind, invoke, e0, e]

theorem evF (ev : Operand → Value) (hev : ∀ f, ev (.func f) = .func (.func f) #[] #[]) (f : FuncId) : ev (.func f) = .func (.func f) #[] #[] := hev f

theorem effX_sound (hT : TOk P T) {bl : Nat → Bool} (hbl : Bl P bl) {ev : Operand → Value} (hev : ∀ f, ev (.func f) = .func (.func f) #[] #[]) {o : Oper} {w : World}
    {Kp : List PanicEntry → World → Prop} {K : Value → World → Prop} (h : effX P T bl ev o w Kp K) : Outcome P Kp K ((execOp ev o).run P w) := by
  obtain ⟨dst, op, type, pos, after, guard⟩ := o
  cases op
  case call c =>
    obtain ⟨callee, args, argTypes⟩ := c
    cases callee with
    | value fv =>
      have main : ∀ f first cap, ev fv = .func (.func f) first cap → bl f = false → CallR P f (first.toList ++ args.toList.map ev ++ cap.toList) w Kp (fun v w' => resEx T type fun u => v = u ∧ K u w') →
          Outcome P Kp K ((execOp ev ⟨dst, .call ⟨.value fv, args, argTypes⟩, type, pos, after, guard⟩).run P w) := by
        intro f first cap hf hb hc
        rw [exec_value hf, hbl f hb]
        have := CallR_out hc
        have e : first ++ args.map ev ++ cap = (first.toList ++ args.toList.map ev ++ cap.toList).toArray := by apply Array.ext'; simp
        rw [e]
        exact this
      cases fv with
      | func f =>
        simp only [effX] at h
        rcases cond_sat h with ⟨hb, h⟩ | ⟨hb, h⟩
        · rw [exec_value (hev f)]
          have e : #[] ++ args.map ev ++ #[] = (args.toList.map ev).toArray := by apply Array.ext'; simp
          rw [e]
          rcases h with ⟨v, w', h1, h2⟩ | ⟨f', args', w1, h1, h2⟩
          · rw [h1]; exact resEx_eq h2
          · rw [h1]; exact CallR_out h2
        · exact main f #[] #[] (hev f) hb (by simpa using h)
      | _ =>
        all_goals
          simp only [effX] at h
          unfold CallV at h
          split at h
          · rename_i f first cap hf
            obtain ⟨hb, h⟩ := cond_right h
            exact main f first cap hf hb h
          · exact h.elim
    | invoke r m =>
      simp only [effX] at h
      obtain ⟨f, args', w1, h1, h2⟩ := h
      rw [exec_invoke, toArr, h1]
      exact CallR_out h2
    | builtin b =>
      cases b <;> simp only [effX] at h <;> (try exact h.elim)
      all_goals
        obtain ⟨cs, hcs⟩ := exec_builtin (P := P) (ev := ev) (dst := dst) (b := _) (args := args) (argTypes := argTypes) (type := type) (pos := pos) (after := after) (guard := guard)
        rw [hcs, toArr]
        exact Prim_out h
  case alloc t =>
    simp only [effX] at h
    split at h
    · rename_i i hi
      obtain ⟨inf, d, h1, h2, rfl⟩ := tb_parts hT hi
      split at h
      · rename_i z hz
        simp only [tiOf, Option.map_eq_some_iff] at hz
        obtain ⟨zv, hz, rfl⟩ := hz
        simp only [execOp, Instr.alloc, Sem.run_bind, zero_run h1 hz, Result.andThen_ok, newVar, newRow, run_newObj, Sem.run_pure, Outcome]
        exact h
      · exact h.elim
    · exact h.elim
  case box t x =>
    simp only [effX] at h
    obtain ⟨inf, h1, h2, h3⟩ := cellsX_sound hT h
    simp only [execOp, Instr.box, Sem.run_bind, Result.andThen_ok, newVar, newRow, run_newObj, Sem.run_pure, Outcome]
    simpa only [Array.toArray_toList, New, World.alloc] using h3
  case buildSlice t len parts =>
    simp only [effX] at h
    split at h
    · rename_i e hk
      obtain ⟨hle, h⟩ := cond_left h
      have hle' := Nat.le_of_ble_eq_true hle
      obtain ⟨inf, d, h1, h2, h3, h4⟩ := kindAt_some hT hk (by simp)
      obtain rfl := kind_slice h3
      have hTe : ∃ i, T e = some i := by
        unfold zerosX at h
        split at h
        · rename_i i hi; exact ⟨i, hi⟩
        · exact h.elim
      obtain ⟨ie, hie⟩ := hTe
      obtain ⟨infe, de, g1, g2, rfl⟩ := tb_parts hT hie
      have hs : sizeAt T e = infe.size := by simp [sizeAt, hie, tiOf]
      obtain ⟨z, hz, h⟩ := zerosX_sound hT g1 h
      obtain ⟨hl, h⟩ := cond_left h
      have hl' := Nat.eq_of_beq_eq_true hl
      rw [hs] at hle' hl'
      obtain ⟨cs, h5, h6, h7⟩ := fillX_sound (place' := fun i => some (i * infe.size, infe.size)) hT (by
        intro i off ft inf hp hinf
        simp only [Option.some.injEq, Prod.mk.injEq] at hp
        obtain ⟨rfl, rfl⟩ := hp
        rw [g1] at hinf
        cases hinf
        rw [hs]) parts.toList _ h
      have hno : ¬ (len * infe.size > 2 ^ 24) := by omega
      have hcells : ((Array.range (len * infe.size)).map fun i => (if len * infe.size = 0 then (#[] : Array Value) else z.cells)[i % (if len * infe.size = 0 then (#[] : Array Value) else z.cells).size]!) = (List.replicate len z.cells.toList).flatten.toArray := by
        apply Array.ext'
        by_cases h0 : len * infe.size = 0
        · have : (List.replicate len z.cells.toList).flatten.length = 0 := by rw [hl', h0]
          rw [List.eq_nil_of_length_eq_zero this]
          simp [h0]
        · have hlen : (List.replicate len z.cells.toList).flatten.length = len * z.cells.toList.length := by simp
          have hlz : z.cells.toList.length = infe.size := by
            rw [hlen] at hl'
            exact Nat.eq_of_mul_eq_mul_left (Nat.pos_of_ne_zero fun e => h0 (by simp [e])) hl'
          have := zeros_list z.cells.toList len
          rw [← this, hlz]
          simp [h0]
      simp only [execOp, Instr.buildSlice, Sem.run_bind, run_under h2, Result.andThen_ok, run_size g1]
      rw [if_neg hno]
      by_cases h0 : len * infe.size = 0
      · rw [if_pos h0]
        simp only [if_pos h0] at hcells
        simp only [pure_bind, parts_map, hcells, h5]
        exact h7
      · rw [if_neg h0]
        simp only [if_neg h0] at hcells
        simp only [Sem.run_bind, zero_run g1 hz, Result.andThen_ok, pure_bind, parts_map, hcells, h5]
        exact h7
    · exact h.elim
  case store t a x =>
    simp only [effX] at h
    split at h
    · rename_i oa ha
      obtain ⟨ad, he, hc⟩ := withSome_some h
      subst he
      obtain ⟨inf, h1, h2, h3⟩ := cellsX_sound hT hc
      obtain ⟨w', h4, h5⟩ := stCells_run (P := P) _ h3
      have hsz : ¬ ((ev x).cells.size ≠ inf.size) := by simpa using h2
      simp only [execOp, Instr.storeAt, ha, Instr.sureAddr, Sem.run_bind, pure_bind, storeVar, run_size h1, Result.andThen_ok]
      rw [if_neg hsz, h4]
      exact h5
    · exact h.elim
  case makeMap t r =>
    cases r with
    | none =>
      simp only [effX] at h
      exact h
    | some r => simp only [effX] at h
  case panic x =>
    simp only [effX] at h
    split at h
    · rename_i t v hv
      simp only [execOp, hv, Instr.panic, Sem.run_bind, run_goPanic, Result.andThen_halt, Outcome]
      exact h
    · exact h.elim
  case makeSlice t l c => exact Prim_out h
  case convert s d x => exact Prim_out h
  case lookup t x ix ok => exact Prim_out h
  case mapUpdate t m k x => exact PrimU_out h
  case insert t m k x => exact PrimU_out h
  case range t x => exact Prim_out h
  case next it s => exact Prim_out h
  case typeAssert x xt at_ ok => exact Prim_out h
  case index t x ix => exact Prim_out h
  all_goals (simp only [effX] at h)

end
end Go.Eng
