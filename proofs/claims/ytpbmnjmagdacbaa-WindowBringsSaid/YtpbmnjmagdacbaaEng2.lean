/- The same for slicing, parts of structs, what is built: and for all operations that look at no memory. -/
import Derived.Test.YtpbmnjmagdacbaaEng1
namespace Go.Eng
open Go

section
variable {P : Program} {T : Nat → Option TI}

theorem sliceBound_ok (k : IntKind) (n : Int) (y : Nat) (code : BoundsCode) (w : World) (h : 0 ≤ n ∧ n ≤ (y : Int)) :
    (Instr.sliceBound (.int k n) y code).run P w = .ok n.toNat w := by
  simp [Instr.sliceBound, asIntOf, h]

theorem sliceX_sound {t e : TypeId} {inf : TypeInfo} (hu : P.underlying t = some (.slice e)) (hi : P.info? e = some inf) {a : Option Addr} {len cap : Nat} {lo hi' mx : Option Value} {K : Value → Prop}
    (h : sliceX inf.size a len cap lo hi' mx K) : ∃ v, (∀ w, (Instr.slice t (.slice a len cap) lo hi' mx).run P w = .ok v w) ∧ K v := by
  unfold sliceX at h
  rcases mx with _ | mx <;> rcases hi' with _ | hv
  · -- no bounds above
    rcases lo with _ | lo
    · refine ⟨_, fun w => ?_, h⟩
      simp [Instr.slice, run_under hu, Instr.sliceBounds, run_size hi]
      intro _; cases a <;> simp [add_zero]
    · cases lo <;> try exact h.elim
      obtain ⟨hb, hK⟩ := h
      exact ⟨_, fun w => by simp [Instr.slice, run_under hu, Instr.sliceBounds, run_size hi, sliceBound_ok _ _ _ _ _ hb], hK⟩
  · cases hv <;> try exact h.elim
    obtain ⟨hh, h⟩ := h
    rcases lo with _ | lo
    · refine ⟨_, fun w => ?_, h⟩
      simp [Instr.slice, run_under hu, Instr.sliceBounds, run_size hi, sliceBound_ok _ _ _ _ _ hh]
      intro _; cases a <;> simp [add_zero]
    · cases lo <;> try exact h.elim
      obtain ⟨hb, hK⟩ := h
      exact ⟨_, fun w => by simp [Instr.slice, run_under hu, Instr.sliceBounds, run_size hi, sliceBound_ok _ _ _ _ _ hh, sliceBound_ok _ _ _ _ _ hb], hK⟩
  · cases mx <;> exact h.elim
  · cases mx <;> try (cases hv <;> exact h.elim)
    cases hv <;> try exact h.elim
    obtain ⟨hm, hh, h⟩ := h
    rename_i km m kh hq
    have hh' : 0 ≤ hq ∧ hq ≤ ((m.toNat : Nat) : Int) := ⟨hh.1, by omega⟩
    rcases lo with _ | lo
    · refine ⟨_, fun w => ?_, h⟩
      simp [Instr.slice, run_under hu, Instr.sliceBounds, run_size hi, sliceBound_ok _ _ _ _ _ hm, sliceBound_ok _ _ _ _ _ hh']
      intro _; cases a <;> simp [add_zero]
    · cases lo <;> try exact h.elim
      obtain ⟨hb, hK⟩ := h
      exact ⟨_, fun w => by simp [Instr.slice, run_under hu, Instr.sliceBounds, run_size hi, sliceBound_ok _ _ _ _ _ hm, sliceBound_ok _ _ _ _ _ hh', sliceBound_ok _ _ _ _ _ hb], hK⟩

theorem strSliceX_sound {t : TypeId} (hu : P.underlying t = some .string) {s : ByteArray} {lo hi : Option Value} {K : Value → Prop}
    (h : strSliceX s lo hi K) : ∃ v, (∀ w, (Instr.slice t (.string s) lo hi none).run P w = .ok v w) ∧ K v := by
  unfold strSliceX at h
  rcases hi with _ | hv
  · rcases lo with _ | lo
    · exact ⟨_, fun w => by simp [Instr.slice, run_under hu, Instr.sliceBounds], h⟩
    · cases lo <;> try exact h.elim
      obtain ⟨hb, hK⟩ := h
      exact ⟨_, fun w => by simp [Instr.slice, run_under hu, Instr.sliceBounds, sliceBound_ok _ _ _ _ _ hb], hK⟩
  · cases hv <;> try exact h.elim
    obtain ⟨hh, h⟩ := h
    rcases lo with _ | lo
    · exact ⟨_, fun w => by simp [Instr.slice, run_under hu, Instr.sliceBounds, sliceBound_ok _ _ _ _ _ hh], h⟩
    · cases lo <;> try exact h.elim
      obtain ⟨hb, hK⟩ := h
      exact ⟨_, fun w => by simp [Instr.slice, run_under hu, Instr.sliceBounds, sliceBound_ok _ _ _ _ _ hh, sliceBound_ok _ _ _ _ _ hb], hK⟩

theorem fieldOf_sound (hT : TOk P T) {t : TypeId} {f off : Nat} {ft : TypeId} (h : fieldOf T t f = some (off, ft)) :
    ∃ fl fd, P.underlying t = some (.struct fl) ∧ fl[f]? = some fd ∧ fd.offset = off ∧ fd.type = ft := by
  unfold fieldOf at h
  split at h
  · rename_i fs hk
    obtain ⟨inf, d, h1, h2, h3, h4⟩ := kindAt_some hT hk (by simp)
    obtain ⟨fl, rfl, rfl⟩ := kind_strct h3
    rw [nthO_get?, List.getElem?_map] at h
    cases hf : fl.toList[f]? with
    | none => rw [hf] at h; cases h
    | some fd =>
      rw [hf] at h
      simp at h
      exact ⟨fl, fd, h2, by simpa using hf, h.1, h.2⟩
  · cases h

theorem sizeAt_info (hT : TOk P T) {t : TypeId} (h : sizeAt T t ≠ 0) : ∃ inf, P.info? t = some inf ∧ inf.size = sizeAt T t := by
  unfold sizeAt at *
  cases hi : T t with
  | none => rw [hi] at h; exact absurd rfl h
  | some i =>
    obtain ⟨inf, d, h1, h2, rfl⟩ := tb_parts hT hi
    exact ⟨inf, h1, rfl⟩

theorem extract_list (cs : Array Value) (a n : Nat) : cs.extract a (a + n) = ((cs.toList.drop a).take n).toArray := by
  apply Array.ext'
  simp [Array.toList_extract, List.extract, Nat.add_sub_cancel_left]

theorem partX_sound (hT : TOk P T) {t : TypeId} {cs : Array Value} {off : Nat} {K : Value → Prop} (h : partX T t cs.toList off K) :
    ∃ v, (∀ w, (part t cs off).run P w = .ok v w) ∧ K v := by
  unfold partX at h
  split at h
  · rename_i i hi
    obtain ⟨inf, d, h1, h2, rfl⟩ := tb_parts hT hi
    rcases cond_sat h with ⟨ha, hK⟩ | ⟨ha, hK⟩
    · refine ⟨_, fun w => ?_, hK⟩
      have ha' : aggOf d = true := ha
      simp only [part, Sem.run_bind, run_isAgg h2, Result.andThen_ok, ha', if_true, run_size h1]
      simp [extract_list, tiOf]
    · split at hK
      · rename_i v hv
        rw [nthO_get?] at hv
        refine ⟨v, fun w => ?_, hK⟩
        have ha' : aggOf d = false := ha
        have hv' : cs[off]? = some v := by simpa using hv
        simp [part, run_isAgg h2, ha', hv']
      · exact hK.elim
  · exact h.elim

theorem one_sound {v : Value} {K : Prop} (h : one v K) : v.cells = #[v] ∧ oneCell v = true ∧ K := by
  cases v <;> first | exact h.elim | exact ⟨rfl, rfl, h⟩

/-- What is known of a value whose cells are asked for. -/
theorem cellsX_sound (hT : TOk P T) {t : TypeId} {v : Value} {K : List Value → Prop} (h : cellsX T t v K) :
    ∃ inf, P.info? t = some inf ∧ v.cells.toList.length = inf.size ∧ K v.cells.toList := by
  unfold cellsX at h
  split at h
  · rename_i i hi
    obtain ⟨inf, d, h1, h2, rfl⟩ := tb_parts hT hi
    refine ⟨inf, h1, ?_⟩
    rcases cond_sat h with ⟨ha, h⟩ | ⟨ha, h⟩
    · split at h
      · rename_i cs
        obtain ⟨hl, hK⟩ := cond_left h
        exact ⟨Nat.eq_of_beq_eq_true hl, hK⟩
      · exact h.elim
    · obtain ⟨hl, h⟩ := cond_left h
      obtain ⟨hc, ho, hK⟩ := one_sound h
      rw [hc]
      exact ⟨(Nat.eq_of_beq_eq_true hl).symm, hK⟩
  · exact h.elim

theorem putL_fold (vs : List Value) : ∀ (cs : Array Value) (off j : Nat),
    ((vs.zipIdx j).foldl (fun cs (x : Value × Nat) => cs.setIfInBounds (off + x.2) x.1) cs).toList = putL cs.toList (off + j) vs := by
  induction vs with
  | nil => intro cs off j; rfl
  | cons v r ih =>
    intro cs off j
    simp only [List.zipIdx_cons, List.foldl_cons, putL]
    rw [ih]
    simp [Nat.add_assoc]

theorem putL_length (vs : List Value) : ∀ (cs : List Value) (off : Nat), (putL cs off vs).length = cs.length := by
  induction vs with
  | nil => intro cs off; rfl
  | cons v r ih => intro cs off; simp [putL, ih]

theorem fill_step (place : Nat → Option (Nat × Nat)) (cells : Array Value) (i : Nat) (v : Value) (rest : List (Nat × Value)) {off size : Nat} (hp : place i = some (off, size))
    (hs : v.cells.toList.length = size) (hb : off + v.cells.toList.length ≤ cells.size) :
    Instr.fill place cells ((i, v) :: rest) = Instr.fill place (putL cells.toList off v.cells.toList).toArray rest := by
  have hs' : v.cells.size = size := by simpa using hs
  have hb' : ¬ (off + v.cells.size > cells.size) := by simp at hb; omega
  have hfold : v.cells.zipIdx.foldl (fun cs (x : Value × Nat) => cs.setIfInBounds (off + x.2) x.1) cells = (putL cells.toList off v.cells.toList).toArray := by
    apply Array.ext'
    have := putL_fold v.cells.toList cells off 0
    simp only [Nat.add_zero] at this
    rw [← this]
    congr 1
    rw [← Array.foldl_toList]
    simp
  rw [Instr.fill, hp]
  simp only []
  rw [if_neg (by simp [hs']; omega)]
  congr 1

theorem fillX_sound (hT : TOk P T) {place : Nat → Option (Nat × TypeId)} {place' : Nat → Option (Nat × Nat)} {ev : Operand → Value}
    (hp : ∀ i off ft inf, place i = some (off, ft) → P.info? ft = some inf → place' i = some (off, inf.size)) {K : List Value → Prop} (parts : List (Nat × Operand)) :
    ∀ cells : List Value, fillX T place ev cells parts K → ∃ cs, Instr.fill place' cells.toArray (parts.map fun x => (x.1, ev x.2)) = some cs.toArray ∧ cs.length = cells.length ∧ K cs := by
  induction parts with
  | nil => intro cells h; exact ⟨cells, rfl, rfl, h⟩
  | cons x r ih =>
    intro cells h
    obtain ⟨i, x⟩ := x
    simp only [fillX] at h
    split at h
    · exact h.elim
    · rename_i off ft hpl
      obtain ⟨inf, h1, h2, h3⟩ := cellsX_sound hT h
      obtain ⟨hb, h4⟩ := cond_left h3
      have hb' := Nat.le_of_ble_eq_true hb
      obtain ⟨cs, h5, h6, h7⟩ := ih _ h4
      refine ⟨cs, ?_, by rw [h6, putL_length], h7⟩
      simp only [List.map_cons]
      rw [fill_step place' cells.toArray i (ev x) _ (hp _ _ _ _ hpl h1) h2 (by simpa using hb')]
      exact h5

theorem run_mapM {α β : Type} (f : α → Sem β) (g : α → β) (w : World) (l : List α) (h : ∀ x ∈ l, (f x).run P w = .ok (g x) w) : (l.mapM f).run P w = .ok (l.map g) w := by
  induction l with
  | nil => simp
  | cons x r ih =>
    have ih' := ih fun y hy => h y (List.mem_cons_of_mem _ hy)
    simp [List.mapM_cons, h x List.mem_cons_self, ih']

theorem run_places (hT : TOk P T) {fl : Array Field} (h : (fl.toList.map fun f => (f.offset, f.type)).all (fun f => known T f.2) = true) (w : World) :
    (fl.mapM (m := Sem) fun f => do pure (f.offset, ← sizeOf f.type)).run P w = .ok (fl.map fun f => (f.offset, P.cellsOf f.type)) w := by
  rw [Array.mapM_eq_mapM_toList]
  simp only [Sem.run_map]
  rw [run_mapM (g := fun f => (f.offset, P.cellsOf f.type))]
  · simp only [Result.andThen_ok]
    congr 1
    apply Array.ext'
    simp
  · intro f hf
    have hk : known T f.type = true := by
      rw [List.all_eq_true] at h
      exact h (f.offset, f.type) (List.mem_map.2 ⟨f, hf, rfl⟩)
    obtain ⟨inf, d, h1, h2, h3⟩ := known_some hT hk
    simp [run_size h1, Program.cellsOf, h1]

theorem zero_run {t : TypeId} {inf : TypeInfo} {z : Value} (h1 : P.info? t = some inf) (hz : inf.zero = some z) (w : World) : (zeroValue t).run P w = .ok z w := by
  simp [zeroValue, typeInfo, h1, hz]

theorem parts_map (ev : Operand → Value) (parts : Array (Nat × Operand)) : (parts.map fun (i, x) => (i, ev x)).toList = parts.toList.map fun x => (x.1, ev x.2) := by simp

theorem buildX_sound (hT : TOk P T) {t : TypeId} {ev : Operand → Value} {parts : Array (Nat × Operand)} {K : Value → Prop} (h : pureX T ev (.build t parts) K) :
    ∃ v, (∀ w, (Instr.build t (parts.map fun (i, x) => (i, ev x))).run P w = .ok v w) ∧ K v := by
  simp only [pureX] at h
  split at h
  · rename_i i hi
    obtain ⟨inf, d, h1, h2, rfl⟩ := tb_parts hT hi
    split at h
    · rename_i fs z hk hz
      obtain ⟨hall, h⟩ := cond_left h
      obtain ⟨fl, rfl, rfl⟩ := kind_strct hk
      simp only [tiOf, Option.map_eq_some_iff] at hz
      obtain ⟨zv, hz, rfl⟩ := hz
      obtain ⟨cs, h5, h6, h7⟩ := fillX_sound (place' := fun i => (fl.map fun f => (f.offset, P.cellsOf f.type))[i]?) hT (by
        intro i off ft inf hp hinf
        rw [nthO_get?, List.getElem?_map] at hp
        cases hf : fl.toList[i]? with
        | none => rw [hf] at hp; cases hp
        | some fd =>
          rw [hf] at hp
          simp at hp
          have hf' : fl[i]? = some fd := by simpa using hf
          obtain ⟨rfl, rfl⟩ := hp
          simp [hf', Program.cellsOf, hinf]) parts.toList _ h
      refine ⟨_, fun w => ?_, h7⟩
      simp only [Instr.build, Sem.run_bind, zero_run h1 hz, Result.andThen_ok, run_under h2, run_places hT hall w, parts_map, Array.toArray_toList] at h5 ⊢
      rw [h5]
      rfl
    · rename_i n e z hk hz
      obtain ⟨hkn, h⟩ := cond_left h
      obtain rfl := kind_arr hk
      simp only [tiOf, Option.map_eq_some_iff] at hz
      obtain ⟨zv, hz, rfl⟩ := hz
      obtain ⟨infe, de, g1, g2, g3⟩ := known_some hT hkn
      have hs : sizeAt T e = infe.size := by simp [sizeAt, g3, tiOf]
      obtain ⟨cs, h5, h6, h7⟩ := fillX_sound (place' := fun i => some (i * infe.size, infe.size)) hT (by
        intro i off ft inf hp hinf
        simp only [Option.some.injEq, Prod.mk.injEq] at hp
        obtain ⟨rfl, rfl⟩ := hp
        rw [g1] at hinf
        cases hinf
        rw [hs]) parts.toList _ h
      refine ⟨_, fun w => ?_, h7⟩
      simp only [Instr.build, Sem.run_bind, zero_run h1 hz, Result.andThen_ok, run_under h2, run_size g1, parts_map, Array.toArray_toList] at h5 ⊢
      rw [h5]
      rfl
    · exact h.elim
  · exact h.elim

theorem run_fieldPlace (hT : TOk P T) {a : Addr} {fd : Field} (h : Nat.beq (sizeAt T fd.type) 0 = false) (w : World) : (fieldPlace a fd).run P w = .ok (a.add fd.offset) w := by
  have h0 : sizeAt T fd.type ≠ 0 := fun e => by rw [e] at h; cases h
  obtain ⟨inf, h1, h2⟩ := sizeAt_info hT h0
  have : ¬ inf.size = 0 := by omega
  simp [fieldPlace, run_size h1, this]

theorem index_addr_slice {t e : TypeId} {inf : TypeInfo} (hu : P.underlying t = some (.slice e)) (hi : P.info? e = some inf) {a : Addr} {len cap : Nat} {k : IntKind} {i : Int} (h : 0 ≤ i ∧ i < (len : Int)) (w : World) :
    (Instr.indexAt t (.slice (some a) len cap) (.int k i)).run P w = .ok (.pointer (some (a.add (i.toNat * inf.size)))) w := by
  simp [Instr.indexAt, asIntOf, run_under hu, h, run_size hi]

theorem index_addr_arr {t e : TypeId} {n : Nat} {inf : TypeInfo} (hu : P.underlying t = some (.array n e)) (hi : P.info? e = some inf) {a : Addr} {k : IntKind} {i : Int} (h : 0 ≤ i ∧ i < (n : Int)) (w : World) :
    (Instr.indexAt t (.pointer (some a)) (.int k i)).run P w = .ok (.pointer (some (a.add (i.toNat * inf.size)))) w := by
  simp [Instr.indexAt, asIntOf, run_under hu, h, run_size hi, Instr.sureAddr]

theorem run_index_str {t : TypeId} (hu : P.underlying t = some .string) {s : ByteArray} {k : IntKind} {i : Int} (h : 0 ≤ i ∧ i < (s.size : Int)) (w : World) :
    (Instr.index t (.string s) (.int k i)).run P w = .ok (.int .u8 (byteAt s i.toNat)) w := by
  have hlt : i.toNat < s.size := by omega
  have hs : s[i.toNat]? = some (s[i.toNat]) := by simp [hlt]
  have hb : (s[i.toNat]).toNat = byteAt s i.toNat := by
    unfold byteAt
    have hlt' : i.toNat < s.data.size := hlt
    unfold Array.getD
    rw [dif_pos hlt']
    rfl
  simp [Instr.index, asIntOf, run_under hu, h.1, hs, hb]

theorem map_toList (ev : Operand → Value) (a : Array Operand) : (a.map ev).toList = a.toList.map ev := by simp

theorem exec_builtin {ev : Operand → Value} {dst : Option Tmp} {b : Builtin} {args : Array Operand} {argTypes : Array TypeId} {type : TypeId} {pos : String} {after : Array Edge} {guard : Option (Nat × Bool)} :
    ∃ cs, ∀ w, (execOp ev ⟨dst, .call ⟨.builtin b, args, argTypes⟩, type, pos, after, guard⟩).run P w = (builtin b argTypes type cs (args.map ev)).run P w :=
  ⟨_, fun w => by simp only [execOp, resolve, invoke, pure_bind]; rfl⟩

theorem args_eq {ev : Operand → Value} {args : Array Operand} {l : List Value} (h : args.toList.map ev = l) : args.map ev = l.toArray := by
  apply Array.ext'
  simp [h]

theorem lenKind_some (hT : TOk P T) {ts : Array TypeId} {k : TK} (h : lenKind T ts = k) (hk : k ≠ .other) : ∃ t d, ts[0]? = some t ∧ P.underlying t = some d ∧ kindOf d = k := by
  unfold lenKind at h
  split at h
  · rename_i t r ht
    obtain ⟨inf, d, h1, h2, h3, h4⟩ := kindAt_some hT h hk
    exact ⟨t, d, by rw [← Array.getElem?_toList, ht]; rfl, h2, h3⟩
  · exact absurd h.symm hk

/-- ALL OF THEM. -/
theorem pureX_sound (hT : TOk P T) {ev : Operand → Value} {o : Oper} {K : Value → Prop} (h : pureX T ev o.op K) :
    ∃ v, (∀ w, (execOp ev o).run P w = .ok (.value v) w) ∧ K v := by
  obtain ⟨dst, op, type, pos, after, guard⟩ := o
  simp only at h
  cases op
  case call c =>
    obtain ⟨callee, args, argTypes⟩ := c
    cases callee with
    | value f => simp only [pureX] at h
    | invoke r m => simp only [pureX] at h
    | builtin b =>
      cases b <;> simp only [pureX] at h
      case len =>
        split at h
        · rename_i e a n c hk hv
          obtain ⟨t, d, h0, h2, h3⟩ := lenKind_some hT hk (by simp)
          obtain rfl := kind_slice h3
          obtain ⟨cs, hcs⟩ := exec_builtin (P := P) (ev := ev) (dst := dst) (b := .len) (args := args) (argTypes := argTypes) (type := type) (pos := pos) (after := after) (guard := guard)
          refine ⟨_, fun w => ?_, h⟩
          rw [hcs, args_eq hv]
          simp [builtin, Builtin.len_, h0, run_under h2, goInt]
        · rename_i s hk hv
          obtain ⟨t, d, h0, h2, h3⟩ := lenKind_some hT hk (by simp)
          obtain rfl := kind_str h3
          obtain ⟨cs, hcs⟩ := exec_builtin (P := P) (ev := ev) (dst := dst) (b := .len) (args := args) (argTypes := argTypes) (type := type) (pos := pos) (after := after) (guard := guard)
          refine ⟨_, fun w => ?_, h⟩
          rw [hcs, args_eq hv]
          simp [builtin, Builtin.len_, h0, run_under h2, goInt]
        · exact h.elim
      case cap =>
        split at h
        · rename_i e a n c hk hv
          obtain ⟨t, d, h0, h2, h3⟩ := lenKind_some hT hk (by simp)
          obtain rfl := kind_slice h3
          obtain ⟨cs, hcs⟩ := exec_builtin (P := P) (ev := ev) (dst := dst) (b := .cap) (args := args) (argTypes := argTypes) (type := type) (pos := pos) (after := after) (guard := guard)
          refine ⟨_, fun w => ?_, h⟩
          rw [hcs, args_eq hv]
          simp [builtin, Builtin.cap_, h0, run_under h2, goInt]
        · exact h.elim
      case min =>
        split at h
        · rename_i hv
          obtain ⟨cs, hcs⟩ := exec_builtin (P := P) (ev := ev) (dst := dst) (b := .min) (args := args) (argTypes := argTypes) (type := type) (pos := pos) (after := after) (guard := guard)
          refine ⟨_, fun w => ?_, h⟩
          rw [hcs, args_eq hv]
          simp [builtin, Builtin.min_, Builtin.min2]
        · exact h.elim
      case max =>
        split at h
        · rename_i hv
          obtain ⟨cs, hcs⟩ := exec_builtin (P := P) (ev := ev) (dst := dst) (b := .max) (args := args) (argTypes := argTypes) (type := type) (pos := pos) (after := after) (guard := guard)
          refine ⟨_, fun w => ?_, h⟩
          rw [hcs, args_eq hv]
          simp [builtin, Builtin.max_, Builtin.max2]
        · exact h.elim
  all_goals (unfold execOp; simp only)
  case move x => exact ⟨_, fun w => rfl, h⟩
  case assign x => exact ⟨_, fun w => rfl, h⟩
  case pick c a b =>
    simp only [pureX] at h
    split at h
    · rename_i t hc
      simp only [hc]
      split at h
      · rename_i p q hp hq
        refine ⟨_, fun w => ?_, h⟩
        cases t <;> simp [asBool, hp, hq]
      · rename_i x y _
        cases t
        · exact ⟨_, fun w => by simp [asBool], h⟩
        · exact ⟨_, fun w => by simp [asBool], h⟩
    · exact h.elim
  case nilCheck x =>
    simp only [pureX] at h
    unfold nilX at h
    split at h
    · rename_i o ho
      obtain ⟨a, hoa, hK⟩ := withSome_some h
      subst hoa
      simp only [ho]
      exact ⟨_, fun w => rfl, hK⟩
    · rename_i f a b hv
      simp only [hv]
      exact ⟨_, fun w => rfl, h⟩
    · exact h.elim
  case fieldAddr s x f =>
    simp only [pureX] at h
    split at h
    · rename_i o ho
      obtain ⟨a, rfl, h⟩ := withSome_some h
      split at h
      · rename_i off ft hf
        obtain ⟨hz, hK⟩ := cond_right h
        obtain ⟨fl, fd, h1, h2, rfl, rfl⟩ := fieldOf_sound hT hf
        refine ⟨_, fun w => ?_, hK⟩
        simp [ho, Instr.fieldAt, run_under h1, h2, Instr.sureAddr, run_fieldPlace hT hz]
      · exact h.elim
    · exact h.elim
  case field t x f =>
    simp only [pureX] at h
    split at h
    · rename_i cs ho
      split at h
      · rename_i off ft hf
        obtain ⟨fl, fd, h1, h2, rfl, rfl⟩ := fieldOf_sound hT hf
        obtain ⟨v, h3, hK⟩ := partX_sound hT h
        exact ⟨v, fun w => by simp [ho, Instr.field, run_under h1, h2, asAgg, h3], hK⟩
      · exact h.elim
    · exact h.elim
  case binOp op t x y yt =>
    obtain ⟨v, h1, h2, hK⟩ := binX_sound hT h
    exact ⟨v, fun w => by simp [h1, h2], hK⟩
  case unOp op t x =>
    obtain ⟨v, h1, hK⟩ := unX_sound (P := P) h
    exact ⟨v, fun w => by simp [h1], hK⟩
  case convert src dst x =>
    simp only [pureX] at h
    split at h
    · rename_i k k' n hk hv
      obtain ⟨hs, hK⟩ := cond_left h
      obtain ⟨inf, d, h1, h2, h3, h4⟩ := kindAt_some hT hk (by simp)
      obtain rfl := kind_int h3
      obtain ⟨infs, ds, g1, g2, g3⟩ := known_some hT hs
      exact ⟨_, fun w => by simp [Go.convert, run_under h2, run_under g2, hv, Conv.intToInt], hK⟩
    · rename_i s hk hv
      obtain ⟨hs, hK⟩ := cond_left h
      obtain ⟨inf, d, h1, h2, h3, h4⟩ := kindAt_some hT hk (by simp)
      obtain rfl := kind_str h3
      obtain ⟨infs, ds, g1, g2, g3⟩ := known_some hT hs
      exact ⟨_, fun w => by simp [Go.convert, run_under h2, run_under g2, hv], hK⟩
    · exact h.elim
  case makeInterface t x =>
    simp only [pureX] at h
    cases hk : kindAt T t <;> rw [hk] at h <;> (try exact h.elim) <;>
    · obtain ⟨inf, d, h1, h2, h3, h4⟩ := kindAt_some hT hk (by simp)
      refine ⟨_, fun w => ?_, h⟩
      simp only [Instr.makeInterface, Sem.run_bind, run_under h2, Result.andThen_ok]
      cases d <;> first | rfl | (simp [kindOf] at h3)
  case makeFunc fn first cap =>
    refine ⟨_, fun w => ?_, h⟩
    have e : ∀ a : Array Operand, a.map ev = (a.toList.map ev).toArray := fun a => by apply Array.ext'; simp
    simp only [Instr.makeFunc, e]
    rfl
  case extract t i =>
    simp only [pureX] at h
    split at h
    · rename_i vs hv
      split at h
      · rename_i v hi
        rw [nthO_get?] at hi
        have hi' : vs[i]? = some v := by simpa using hi
        exact ⟨v, fun w => by simp [hv, Instr.extract, hi'], h⟩
      · exact h.elim
    · exact h.elim
  case build t parts =>
    obtain ⟨v, h1, hK⟩ := buildX_sound hT h
    exact ⟨v, fun w => by simp [h1], hK⟩
  case slice t x lo hi mx =>
    simp only [pureX] at h
    split at h
    · rename_i e a len cap hk hv
      obtain ⟨hkn, h⟩ := cond_left h
      obtain ⟨inf, d, h1, h2, h3, h4⟩ := kindAt_some hT hk (by simp)
      obtain rfl := kind_slice h3
      obtain ⟨infe, de, g1, g2, g3⟩ := known_some hT hkn
      have hs : sizeAt T e = infe.size := by simp [sizeAt, g3, tiOf]
      rw [hs] at h
      obtain ⟨v, h5, hK⟩ := sliceX_sound h2 g1 h
      refine ⟨v, fun w => ?_, hK⟩
      simp only [Instr.sliceAt, Sem.run_bind, run_under h2, Result.andThen_ok, hv, h5]
      rfl
    · rename_i s hk hv
      obtain ⟨inf, d, h1, h2, h3, h4⟩ := kindAt_some hT hk (by simp)
      obtain rfl := kind_str h3
      split at h
      · obtain ⟨v, h5, hK⟩ := strSliceX_sound h2 h
        refine ⟨v, fun w => ?_, hK⟩
        simp only [Instr.sliceAt, Sem.run_bind, run_under h2, Result.andThen_ok, hv, Option.map_none, h5]
        rfl
      · exact h.elim
    · exact h.elim
  case indexAddr t x ix =>
    simp only [pureX] at h
    split at h
    · rename_i e a len cap k i hk hv hx
      obtain ⟨hkn, h⟩ := cond_left h
      obtain ⟨ad, rfl, hb, hK⟩ := withSome_some h
      obtain ⟨inf, d, h1, h2, h3, h4⟩ := kindAt_some hT hk (by simp)
      obtain rfl := kind_slice h3
      obtain ⟨infe, de, g1, g2, g3⟩ := known_some hT hkn
      have hs : sizeAt T e = infe.size := by simp [sizeAt, g3, tiOf]
      rw [hs] at hK
      exact ⟨_, fun w => by simp [hv, hx, index_addr_slice h2 g1 hb], hK⟩
    · rename_i n e a k i hk hv hx
      obtain ⟨hkn, h⟩ := cond_left h
      obtain ⟨ad, rfl, hb, hK⟩ := withSome_some h
      obtain ⟨inf, d, h1, h2, h3, h4⟩ := kindAt_some hT hk (by simp)
      obtain rfl := kind_arr h3
      obtain ⟨infe, de, g1, g2, g3⟩ := known_some hT hkn
      have hs : sizeAt T e = infe.size := by simp [sizeAt, g3, tiOf]
      rw [hs] at hK
      exact ⟨_, fun w => by simp [hv, hx, index_addr_arr h2 g1 hb], hK⟩
    · exact h.elim
  case index t x ix =>
    simp only [pureX] at h
    split at h
    · rename_i s k i hk hv hx
      obtain ⟨hb, hK⟩ := h
      obtain ⟨inf, d, h1, h2, h3, h4⟩ := kindAt_some hT hk (by simp)
      obtain rfl := kind_str h3
      exact ⟨_, fun w => by simp [hv, hx, run_index_str h2 hb], hK⟩
    · exact h.elim
  all_goals (simp only [pureX] at h)

end
end Go.Eng
