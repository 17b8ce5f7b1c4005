/- What is said of an operation that looks at no memory holds of the model's run of it, in whatever world. -/
import Derived.Test.YtpbmnjmagdacbaaEng0
import Derived.Laws.Sem
namespace Go.Eng
open Go

section
variable {P : Program} {T : Nat → Option TI}

theorem nth_getD (l : List Value) (n : Nat) : nth l n = l.toArray.getD n undef := by
  induction l generalizing n with
  | nil => simp [nth]
  | cons v r ih => cases n with
    | zero => simp [nth]
    | succ n => simp [nth, ih]

theorem nthO_get? {α : Type} (l : List α) (n : Nat) : nthO l n = l[n]? := by
  induction l generalizing n with
  | nil => simp [nthO]
  | cons v r ih => cases n with
    | zero => simp [nthO]
    | succ n => simp [nthO, ih]

theorem evL_eval (fr : List Value) (ds : List Deferred) (x : Operand) : (Act.mk fr.toArray ds).eval x = evL fr x := by
  cases x <;> simp [Act.eval, evL, nth_getD]

theorem same_eq {a b : IntKind} (h : same a b = true) : a = b := by
  cases a <;> cases b <;> first | rfl | (exact absurd h (by decide))

theorem cond_sat {b : Bool} {A B : Prop} (h : cond b A B) : (b = true ∧ A) ∨ (b = false ∧ B) := by cases b <;> simp_all
theorem cond_left {b : Bool} {A : Prop} (h : cond b A False) : b = true ∧ A := by cases b <;> simp_all
theorem cond_right {b : Bool} {A : Prop} (h : cond b False A) : b = false ∧ A := by cases b <;> simp_all

theorem tb_parts (hT : TOk P T) {t : TypeId} {i : TI} (h : T t = some i) : ∃ inf d, P.info? t = some inf ∧ P.underlying t = some d ∧ i = tiOf P t inf d := by
  have h1 := hT t i h
  unfold tbOf at h1
  split at h1
  · rename_i inf d h2 h3
    exact ⟨inf, d, h2, h3, (Option.some.inj h1).symm⟩
  · cases h1

theorem run_under {t : TypeId} {d : TypeDesc} (h : P.underlying t = some d) (w : World) : (underlying t).run P w = .ok d w := by
  simp [underlying, h]

theorem run_size {t : TypeId} {i : TypeInfo} (h : P.info? t = some i) (w : World) : (sizeOf t).run P w = .ok i.size w := by
  simp [sizeOf, typeInfo, h]

theorem run_info {t : TypeId} {i : TypeInfo} (h : P.info? t = some i) (w : World) : (typeInfo t).run P w = .ok i w := by
  simp [typeInfo, h]

theorem run_isAgg {t : TypeId} {d : TypeDesc} (h : P.underlying t = some d) (w : World) : (isAgg t).run P w = .ok (aggOf d) w := by
  unfold isAgg
  simp only [Sem.run_bind, run_under h, Result.andThen_ok]
  cases d <;> rfl

theorem kindAt_some (hT : TOk P T) {t : TypeId} {k : TK} (h : kindAt T t = k) (hk : k ≠ .other) : ∃ inf d, P.info? t = some inf ∧ P.underlying t = some d ∧ kindOf d = k ∧ T t = some (tiOf P t inf d) := by
  unfold kindAt at h
  cases hi : T t with
  | none => rw [hi] at h; exact absurd h.symm hk
  | some i =>
    obtain ⟨inf, d, h1, h2, h3⟩ := tb_parts hT hi
    rw [hi] at h
    subst h3
    exact ⟨inf, d, h1, h2, h, rfl⟩

theorem known_some (hT : TOk P T) {t : TypeId} (h : known T t = true) : ∃ inf d, P.info? t = some inf ∧ P.underlying t = some d ∧ T t = some (tiOf P t inf d) := by
  unfold known at h
  cases hi : T t with
  | none => rw [hi] at h; cases h
  | some i =>
    obtain ⟨inf, d, h1, h2, h3⟩ := tb_parts hT hi
    subst h3
    exact ⟨inf, d, h1, h2, rfl⟩

theorem kind_int {d : TypeDesc} {k : IntKind} (h : kindOf d = .int k) : d = .int k := by cases d <;> simp_all [kindOf]
theorem kind_str {d : TypeDesc} (h : kindOf d = .str) : d = .string := by cases d <;> simp_all [kindOf]
theorem kind_bool {d : TypeDesc} (h : kindOf d = .bool) : d = .bool := by cases d <;> simp_all [kindOf]
theorem kind_slice {d : TypeDesc} {e : TypeId} (h : kindOf d = .slice e) : d = .slice e := by cases d <;> simp_all [kindOf]
theorem kind_ptr {d : TypeDesc} {e : TypeId} (h : kindOf d = .ptr e) : d = .pointer e := by cases d <;> simp_all [kindOf]
theorem kind_arr {d : TypeDesc} {n : Nat} {e : TypeId} (h : kindOf d = .arr n e) : d = .array n e := by cases d <;> simp_all [kindOf]
theorem kind_map {d : TypeDesc} (h : kindOf d = .map) : ∃ k e, d = .map k e := by cases d <;> simp_all [kindOf]
theorem kind_func {d : TypeDesc} (h : kindOf d = .func) : ∃ k e v, d = .func k e v := by cases d <;> simp_all [kindOf]
theorem kind_iface {d : TypeDesc} (h : kindOf d = .iface) : ∃ ms, d = .interface ms := by cases d <;> simp_all [kindOf]
theorem kind_strct {d : TypeDesc} {fs : List (Nat × TypeId)} (h : kindOf d = .strct fs) : ∃ fl, d = .struct fl ∧ fs = fl.toList.map fun f => (f.offset, f.type) := by
  cases d <;> simp_all [kindOf]

theorem add_zero (a : Addr) : a.add 0 = a := rfl

theorem withSome_some {α : Type} {o : Option α} {K : α → Prop} (h : withSome o K) : ∃ a, o = some a ∧ K a := by
  cases o with
  | none => exact h.elim
  | some a => exact ⟨a, rfl, h⟩

theorem intBin_sound {op : BinOp} {k : IntKind} {a b : Int} {K : Value → Prop} (h : intBin op k a b K) (hs : op ≠ .shl) (hr : op ≠ .shr) :
    ∃ v, (∀ t w, (binOp op t (.int k a) (.int k b)).run P w = .ok v w) ∧ K v := by
  cases op <;> simp only [intBin] at h <;> first
    | exact absurd rfl hs
    | exact absurd rfl hr
    | exact h.elim
    | exact ⟨_, fun t w => by simp [binOp, Op.intArith, Op.intBits, Op.intCmp], h⟩
    | (obtain ⟨h0, h1⟩ := cond_right h
       have hb : ¬ b = 0 := by simpa using h0
       exact ⟨_, fun t w => by simp [binOp, Op.intDiv, hb], h1⟩)

theorem strBin_sound {op : BinOp} {a b : ByteArray} {K : Value → Prop} (h : strBin op a b K) :
    ∃ v, (∀ t w, (binOp op t (.string a) (.string b)).run P w = .ok v w) ∧ K v := by
  cases op <;> simp only [strBin] at h <;> first
    | exact h.elim
    | (obtain ⟨h0, h1⟩ := h
       have hm : ¬ (((a.size + b.size : Nat) : Int) > IntKind.i64.max) := by
         have : IntKind.i64.max = 9223372036854775807 := by decide
         omega
       exact ⟨_, fun t w => by simp only [binOp, Op.stringOp, if_neg hm]; rfl, h1⟩)
    | exact ⟨_, fun t w => by simp [binOp, Op.stringOp], h⟩

theorem isNilFn_sound {v : Value} {K : Bool → Prop} (h : isNilFn v K) : (v = .nilFunc ∧ K true) ∨ (∃ f a b, v = .func f a b ∧ K false) := by
  cases v <;> simp only [isNilFn] at h <;> first | exact h.elim | exact .inl ⟨rfl, h⟩ | exact .inr ⟨_, _, _, rfl, h⟩
theorem isNilIf_sound {v : Value} {K : Bool → Prop} (h : isNilIf v K) : (v = .nilIface ∧ K true) ∨ (∃ t x, v = .iface t x ∧ K false) := by
  cases v <;> simp only [isNilIf] at h <;> first | exact h.elim | exact .inl ⟨rfl, h⟩ | exact .inr ⟨_, _, rfl, h⟩

section
variable (d : Nat) {t : TypeId} (w : World)
theorem eqIn_ptr1 {e : TypeId} (h : P.underlying t = some (.pointer e)) (o : Option Addr) : (Op.equalIn (d + 1) t (.pointer o) (.pointer none)).run P w = .ok o.isNone w := by
  cases o <;> simp [Op.equalIn, run_under h]
theorem eqIn_ptr2 {e : TypeId} (h : P.underlying t = some (.pointer e)) (o : Option Addr) : (Op.equalIn (d + 1) t (.pointer none) (.pointer o)).run P w = .ok o.isNone w := by
  cases o <;> simp [Op.equalIn, run_under h]
theorem eqIn_sl1 {e : TypeId} (h : P.underlying t = some (.slice e)) (o : Option Addr) (l c l' c' : Nat) : (Op.equalIn (d + 1) t (.slice o l c) (.slice none l' c')).run P w = .ok o.isNone w := by
  cases o <;> simp [Op.equalIn, run_under h]
theorem eqIn_sl2 {e : TypeId} (h : P.underlying t = some (.slice e)) (o : Option Addr) (l c l' c' : Nat) : (Op.equalIn (d + 1) t (.slice none l' c') (.slice o l c)).run P w = .ok o.isNone w := by
  cases o <;> simp [Op.equalIn, run_under h]
theorem eqIn_map1 {k e : TypeId} (h : P.underlying t = some (.map k e)) (o : Option Nat) : (Op.equalIn (d + 1) t (.map o) (.map none)).run P w = .ok o.isNone w := by
  cases o <;> simp [Op.equalIn, run_under h]
theorem eqIn_map2 {k e : TypeId} (h : P.underlying t = some (.map k e)) (o : Option Nat) : (Op.equalIn (d + 1) t (.map none) (.map o)).run P w = .ok o.isNone w := by
  cases o <;> simp [Op.equalIn, run_under h]
theorem eqIn_fn0 {p r : Array TypeId} {v : Bool} (h : P.underlying t = some (.func p r v)) : (Op.equalIn (d + 1) t .nilFunc .nilFunc).run P w = .ok true w := by
  simp [Op.equalIn, run_under h]
theorem eqIn_fn1 {p r : Array TypeId} {v : Bool} (h : P.underlying t = some (.func p r v)) (f : Fn) (a b : Array Value) : (Op.equalIn (d + 1) t (.func f a b) .nilFunc).run P w = .ok false w := by
  simp [Op.equalIn, run_under h]
theorem eqIn_fn2 {p r : Array TypeId} {v : Bool} (h : P.underlying t = some (.func p r v)) (f : Fn) (a b : Array Value) : (Op.equalIn (d + 1) t .nilFunc (.func f a b)).run P w = .ok false w := by
  simp [Op.equalIn, run_under h]
theorem eqIn_if0 {ms : Array (String × TypeId)} (h : P.underlying t = some (.interface ms)) : (Op.equalIn (d + 1) t .nilIface .nilIface).run P w = .ok true w := by
  simp [Op.equalIn, run_under h]
theorem eqIn_if1 {ms : Array (String × TypeId)} (h : P.underlying t = some (.interface ms)) (u : TypeId) (x : Value) : (Op.equalIn (d + 1) t (.iface u x) .nilIface).run P w = .ok false w := by
  simp [Op.equalIn, run_under h]
theorem eqIn_if2 {ms : Array (String × TypeId)} (h : P.underlying t = some (.interface ms)) (u : TypeId) (x : Value) : (Op.equalIn (d + 1) t .nilIface (.iface u x)).run P w = .ok false w := by
  simp [Op.equalIn, run_under h]
theorem eqIn_bool (h : P.underlying t = some .bool) (a b : Bool) : (Op.equalIn (d + 1) t (.bool a) (.bool b)).run P w = .ok (a == b) w := by
  simp [Op.equalIn, run_under h]
end

/-- '==' and '!=' of two values that are no numbers and no strings. -/
def EqForm (t : TypeId) (a b : Value) : Prop :=
  (binOp .eql t a b = do pure (.bool (← Op.equal t a b))) ∧ (binOp .neq t a b = do pure (.bool (!(← Op.equal t a b))))

/-- Go's '==' against nil, either way about. -/
theorem eqNil_sound (hT : TOk P T) {t : TypeId} {a b : Value} {K : Bool → Prop} (hb : nilOf (kindAt T t) b = true) (h : eqNil (kindAt T t) a K) :
    ∃ r, (∀ w, (Op.equal t a b).run P w = .ok r w) ∧ (∀ w, (Op.equal t b a).run P w = .ok r w) ∧ K r ∧
      (∀ op x y w, (isConst x = true ∨ isConst y = true) → (eqGuard op t x y a b).run P w = .ok () w ∧ (eqGuard op t x y b a).run P w = .ok () w) ∧ EqForm t a b ∧ EqForm t b a := by
  cases hk : kindAt T t with
  | ptr e =>
    obtain ⟨inf, d, h1, h2, h3, h4⟩ := kindAt_some hT hk (by simp)
    obtain rfl := kind_ptr h3
    rw [hk] at hb h
    cases b <;> simp only [nilOf] at hb <;> try cases hb
    rename_i bo
    cases bo with
    | some x => cases hb
    | none =>
      cases a <;> simp only [eqNil] at h <;> try exact h.elim
      rename_i ao
      refine ⟨_, fun w => ?_, fun w => ?_, h, fun op x y w _ => ?_, ⟨rfl, rfl⟩, ⟨rfl, rfl⟩⟩
      · exact eqIn_ptr1 9999 w h2 ao
      · exact eqIn_ptr2 9999 w h2 ao
      · cases op <;> simp [eqGuard]
  | slice e =>
    obtain ⟨inf, d, h1, h2, h3, h4⟩ := kindAt_some hT hk (by simp)
    obtain rfl := kind_slice h3
    rw [hk] at hb h
    cases b <;> simp only [nilOf] at hb <;> try cases hb
    rename_i bo _ _
    cases bo with
    | some x => cases hb
    | none =>
      cases a <;> simp only [eqNil] at h <;> try exact h.elim
      rename_i ao _ _
      refine ⟨_, fun w => ?_, fun w => ?_, h, fun op x y w _ => ?_, ⟨rfl, rfl⟩, ⟨rfl, rfl⟩⟩
      · exact eqIn_sl1 9999 w h2 ao _ _ _ _
      · exact eqIn_sl2 9999 w h2 ao _ _ _ _
      · cases op <;> simp [eqGuard]
  | map =>
    obtain ⟨inf, d, h1, h2, h3, h4⟩ := kindAt_some hT hk (by simp)
    obtain ⟨mk, me, rfl⟩ := kind_map h3
    rw [hk] at hb h
    cases b <;> simp only [nilOf] at hb <;> try cases hb
    rename_i bo
    cases bo with
    | some x => cases hb
    | none =>
      cases a <;> simp only [eqNil] at h <;> try exact h.elim
      rename_i ao
      refine ⟨_, fun w => ?_, fun w => ?_, h, fun op x y w _ => ?_, ⟨rfl, rfl⟩, ⟨rfl, rfl⟩⟩
      · exact eqIn_map1 9999 w h2 ao
      · exact eqIn_map2 9999 w h2 ao
      · cases op <;> simp [eqGuard]
  | func =>
    obtain ⟨inf, d, h1, h2, h3, h4⟩ := kindAt_some hT hk (by simp)
    obtain ⟨fa, fb, fc, rfl⟩ := kind_func h3
    rw [hk] at hb h
    cases b <;> simp only [nilOf] at hb <;> try cases hb
    simp only [eqNil] at h
    rcases isNilFn_sound h with ⟨rfl, hK⟩ | ⟨f, x, y, rfl, hK⟩
    · refine ⟨true, fun w => ?_, fun w => ?_, hK, fun op x y w _ => ?_, ⟨rfl, rfl⟩, ⟨rfl, rfl⟩⟩
      · exact eqIn_fn0 9999 w h2
      · exact eqIn_fn0 9999 w h2
      · cases op <;> simp [eqGuard]
    · refine ⟨false, fun w => ?_, fun w => ?_, hK, fun op x y w _ => ?_, ⟨rfl, rfl⟩, ⟨rfl, rfl⟩⟩
      · exact eqIn_fn1 9999 w h2 _ _ _
      · exact eqIn_fn2 9999 w h2 _ _ _
      · cases op <;> simp [eqGuard]
  | iface =>
    obtain ⟨inf, d, h1, h2, h3, h4⟩ := kindAt_some hT hk (by simp)
    obtain ⟨ms, rfl⟩ := kind_iface h3
    rw [hk] at hb h
    cases b <;> simp only [nilOf] at hb <;> try cases hb
    simp only [eqNil] at h
    rcases isNilIf_sound h with ⟨rfl, hK⟩ | ⟨u, x, rfl, hK⟩
    · refine ⟨true, fun w => ?_, fun w => ?_, hK, fun op x y w hc => ?_, ⟨rfl, rfl⟩, ⟨rfl, rfl⟩⟩
      · exact eqIn_if0 9999 w h2
      · exact eqIn_if0 9999 w h2
      · have hg : ∀ op : BinOp, (eqGuard op t x y .nilIface .nilIface).run P w = .ok () w := by
          intro op
          unfold eqGuard
          rcases hc with hc | hc
          · cases x <;> first | (cases hc; done) | (cases op <;> rfl)
          · cases y <;> first | (cases hc; done) | (cases x <;> cases op <;> rfl)
        exact ⟨hg op, hg op⟩
    · refine ⟨false, fun w => ?_, fun w => ?_, hK, fun op x y w _ => ?_, ⟨rfl, rfl⟩, ⟨rfl, rfl⟩⟩
      · exact eqIn_if1 9999 w h2 _ _
      · exact eqIn_if2 9999 w h2 _ _
      · cases op <;> simp [eqGuard]
  | _ => rw [hk] at h; cases a <;> simp only [eqNil] at h


theorem eqBin_sound (hT : TOk P T) {t : TypeId} {x y : Operand} {a b : Value} {K : Bool → Prop} (h : eqBin (kindAt T t) x y a b K) :
    ∃ r, (∀ w, (Op.equal t a b).run P w = .ok r w) ∧ K r ∧ (∀ op w, (eqGuard op t x y a b).run P w = .ok () w) ∧ EqForm t a b := by
  have bools : ∀ p q, a = .bool p → b = .bool q → kindAt T t = .bool → K (p == q) → ∃ r, (∀ w, (Op.equal t a b).run P w = .ok r w) ∧ K r ∧ (∀ op w, (eqGuard op t x y a b).run P w = .ok () w) ∧ EqForm t a b := by
    intro p q ha hb hk hK
    obtain ⟨inf, d, h1, h2, h3, h4⟩ := kindAt_some hT hk (by simp)
    obtain rfl := kind_bool h3
    subst ha; subst hb
    exact ⟨_, fun w => eqIn_bool 9999 w h2 p q, hK, fun op w => by cases op <;> simp [eqGuard], rfl, rfl⟩
  unfold eqBin at h
  split at h
  · rename_i hy
    split at h
    · rename_i hk
      exact bools _ _ rfl rfl hk h
    · obtain ⟨hn, hK⟩ := cond_left h
      obtain ⟨r, h1, h2, h3, h4, h5, h6⟩ := eqNil_sound hT hn hK
      exact ⟨r, h1, h3, fun op w => (h4 op x y w (.inr hy)).1, h5⟩
  · rename_i hy hx
    obtain ⟨hn, hK⟩ := cond_left h
    obtain ⟨r, h1, h2, h3, h4, h5, h6⟩ := eqNil_sound hT hn hK
    exact ⟨r, h2, h3, fun op w => (h4 op x y w (.inl hx)).2, h6⟩
  · split at h
    · rename_i hk
      exact bools _ _ rfl rfl hk h
    · exact h.elim

theorem guard_int (op : BinOp) (t : TypeId) (x y : Operand) (k : IntKind) (n : Int) (b : Value) (w : World) : (eqGuard op t x y (.int k n) b).run P w = .ok () w := by
  cases op <;> simp [eqGuard]
theorem guard_str (op : BinOp) (t : TypeId) (x y : Operand) (s : ByteArray) (b : Value) (w : World) : (eqGuard op t x y (.string s) b).run P w = .ok () w := by
  cases op <;> simp [eqGuard]

theorem shBin_sound {op : BinOp} {t : TypeId} {x y : Operand} {a b : Value} {K : Value → Prop} (h : shBin op a b K) :
    ∃ v, (∀ w, (eqGuard op t x y a b).run P w = .ok () w) ∧ (∀ w, (binOp op t a b).run P w = .ok v w) ∧ K v := by
  unfold shBin at h
  split at h
  · obtain ⟨h0, hK⟩ := cond_right h
    have hm : ¬ _ < (0 : Int) := of_decide_eq_false h0
    exact ⟨_, guard_int _ _ _ _ _ _ _, fun w => by simp [binOp, Op.shift, hm], hK⟩
  · obtain ⟨h0, hK⟩ := cond_right h
    have hm : ¬ _ < (0 : Int) := of_decide_eq_false h0
    exact ⟨_, guard_int _ _ _ _ _ _ _, fun w => by simp [binOp, Op.shift, hm], hK⟩
  · rename_i hs hr
    obtain ⟨h0, hK⟩ := cond_left h
    obtain rfl := same_eq h0
    obtain ⟨v, h1, h2⟩ := intBin_sound (P := P) hK (fun e => by subst e; simp at hs) (fun e => by subst e; simp at hr)
    exact ⟨v, guard_int _ _ _ _ _ _ _, h1 t, h2⟩
  · exact h.elim

theorem binX_sound (hT : TOk P T) {op : BinOp} {t : TypeId} {x y : Operand} {a b : Value} {K : Value → Prop} (h : binX T op t x y a b K) :
    ∃ v, (∀ w, (eqGuard op t x y a b).run P w = .ok () w) ∧ (∀ w, (binOp op t a b).run P w = .ok v w) ∧ K v := by
  unfold binX at h
  split at h
  · exact shBin_sound h
  · split at h
    · obtain ⟨v, h1, h2⟩ := strBin_sound (P := P) h
      exact ⟨v, guard_str _ _ _ _ _ _, h1 t, h2⟩
    · exact h.elim
  · split at h
    · obtain ⟨r, e1, e2, e3, e4⟩ := eqBin_sound hT h
      exact ⟨_, e3 _, fun w => by rw [e4.1]; simp [e1], e2⟩
    · obtain ⟨r, e1, e2, e3, e4⟩ := eqBin_sound hT h
      exact ⟨_, e3 _, fun w => by rw [e4.2]; simp [e1], e2⟩
    · exact h.elim

theorem unX_sound {op : UnOp} {a : Value} {K : Value → Prop} (h : unX op a K) : ∃ v, (∀ w, (Op.unary op a).run P w = .ok v w) ∧ K v := by
  unfold unX at h
  split at h
  · exact ⟨_, fun w => by simp [Op.unary, Op.intArith], h⟩
  · exact ⟨_, fun w => by simp [Op.unary, Op.intBits], h⟩
  · exact ⟨_, fun w => by simp [Op.unary], h⟩
  · exact h.elim

end
end Go.Eng
