/-
  A SYNTACTIC WEAKEST PRECONDITION 'ewp' OVER THE MODEL'S CODE, AND ITS SOUNDNESS: the frame as a function from slots to values, loops and joins with typed states, regions that draw their order. It speaks of no program.
-/
import Derived.Defers
import Derived.OrdersHeld
import Derived.KernelRfl
import Derived.Tactics
set_option linter.unusedVariables false
namespace Go.Lift
open Go

/-! ### The frame as a function -/
abbrev Env := Nat → Value

def Env.set (ρ : Env) (d : Nat) (v : Value) : Env := fun t => bif Nat.beq t d then v else ρ t
def Env.put (ρ : Env) (d : Option Nat) (v : Value) : Env := match d with | some d => ρ.set d v | none => ρ

def ev (ρ : Env) : Operand → Value
  | .tmp t => ρ t
  | .const v => v
  | .global g => .pointer (some ⟨g, 0, none⟩)
  | .func f => .func (.func f) #[] #[]

def argEnv (l : List Value) : Env := fun t => l.getD t undef

/-! ### Kinds: hints on the shape of values (nothing hangs on their being right) -/
inductive K0 where | int (k : IntKind) | bool | str | ptr | blk | slice | map | any
inductive KA where | one (k : K0) | agg (l : List K0)
inductive Kd where | a (k : KA) | tup (l : List KA)

def K0.ex (k : K0) (φ : Value → Prop) : Prop :=
  match k with
  | .int k => ∃ n : Int, φ (.int k n)
  | .bool => ∃ b : Bool, φ (.bool b)
  | .str => ∃ s : ByteArray, φ (.string s)
  | .ptr => ∃ a : Option Addr, φ (.pointer a)
  | .blk => ∃ b : Nat, φ (.pointer (some ⟨b, 0, none⟩))
  | .slice => ∃ (a : Option Addr) (l c : Nat), φ (.slice a l c)
  | .map => ∃ r : Option Nat, φ (.map r)
  | .any => ∃ v : Value, φ v

def K0.exs : List K0 → List Value → (List Value → Prop) → Prop
  | [], acc, φ => φ acc
  | k :: r, acc, φ => k.ex fun v => K0.exs r (acc ++ [v]) φ

def KA.ex (k : KA) (φ : Value → Prop) : Prop :=
  match k with
  | .one k => k.ex φ
  | .agg l => K0.exs l [] fun xs => φ (.agg xs.toArray)

def KA.exs : List KA → List Value → (List Value → Prop) → Prop
  | [], acc, φ => φ acc
  | k :: r, acc, φ => k.ex fun v => KA.exs r (acc ++ [v]) φ

def TY (k : Kd) (v : Value) (φ : Value → Prop) : Prop :=
  match k with
  | .a (.one .any) => φ v
  | .a k => k.ex fun x => v = x ∧ φ x
  | .tup l => KA.exs l [] fun xs => v = .tuple xs.toArray ∧ φ (.tuple xs.toArray)

theorem K0.ex_elim {k : K0} {φ : Value → Prop} (h : k.ex φ) : ∃ v, φ v := by
  cases k <;> simp only [K0.ex] at h <;> first | exact h.imp fun _ h => h | (obtain ⟨_, h⟩ := h; exact ⟨_, h⟩) | (obtain ⟨_, _, _, h⟩ := h; exact ⟨_, h⟩)
theorem K0.exs_elim : ∀ {l : List K0} {acc : List Value} {φ : List Value → Prop}, K0.exs l acc φ → ∃ xs, φ xs
  | [], _, _, h => ⟨_, h⟩
  | _ :: _, _, _, h => let ⟨_, h⟩ := K0.ex_elim h; K0.exs_elim h
theorem KA.ex_elim {k : KA} {φ : Value → Prop} (h : k.ex φ) : ∃ v, φ v := by
  cases k with
  | one k => exact K0.ex_elim h
  | agg l => obtain ⟨_, h⟩ := K0.exs_elim h; exact ⟨_, h⟩
theorem KA.exs_elim : ∀ {l : List KA} {acc : List Value} {φ : List Value → Prop}, KA.exs l acc φ → ∃ xs, φ xs
  | [], _, _, h => ⟨_, h⟩
  | _ :: _, _, _, h => let ⟨_, h⟩ := KA.ex_elim h; KA.exs_elim h

theorem TY.elim {k : Kd} {v : Value} {φ : Value → Prop} (h : TY k v φ) : φ v := by
  unfold TY at h
  split at h
  · exact h
  · obtain ⟨x, rfl, h⟩ := KA.ex_elim h; exact h
  · obtain ⟨x, rfl, h'⟩ := KA.exs_elim h; exact h'

/-! ### Typed states of loops and joins -/
def K0.T : K0 → Type
  | .int _ => Int | .bool => Bool | .str => ByteArray | .ptr => Option Addr | .blk => Nat | .slice => Option Addr × Nat × Nat | .map => Option Nat | .any => Value
def K0.enc : (k : K0) → k.T → Value
  | .int k, n => .int k n
  | .bool, b => .bool b
  | .str, s => .string s
  | .ptr, a => .pointer a
  | .blk, b => .pointer (some ⟨b, 0, none⟩)
  | .slice, x => .slice x.1 x.2.1 x.2.2
  | .map, r => .map r
  | .any, v => v
def K0.dec : (k : K0) → Value → Option k.T
  | .int k, v => match v with | .int k' n => (if k = k' then some n else none) | _ => none
  | .bool, v => match v with | .bool b => some b | _ => none
  | .str, v => match v with | .string b => some b | _ => none
  | .ptr, v => match v with | .pointer b => some b | _ => none
  | .blk, v => match v with | .pointer (some ⟨b, 0, none⟩) => some b | _ => none
  | .slice, v => match v with | .slice a l c => some (a, l, c) | _ => none
  | .map, v => match v with | .map b => some b | _ => none
  | .any, v => some v
def K0.TS : List K0 → Type
  | [] => Unit
  | k :: r => k.T × K0.TS r
def K0.encs : (l : List K0) → K0.TS l → List Value
  | [], _ => []
  | k :: r, x => k.enc x.1 :: K0.encs r x.2
def K0.decs : (l : List K0) → List Value → Option (K0.TS l)
  | [], [] => some ()
  | k :: r, v :: vs => match k.dec v, K0.decs r vs with | some x, some xs => some (x, xs) | _, _ => none
  | _, _ => none
def KA.T : KA → Type
  | .one k => k.T
  | .agg l => K0.TS l
def KA.enc : (k : KA) → k.T → Value
  | .one k, x => k.enc x
  | .agg l, x => .agg (K0.encs l x).toArray
def KA.decA (l : List K0) (v : Value) : Option (K0.TS l) := match v with | .agg cs => K0.decs l cs.toList | _ => none
def KA.dec : (k : KA) → Value → Option k.T
  | .one k, v => k.dec v
  | .agg l, v => KA.decA l v
abbrev Slots := List (Nat × KA)
def TL : Slots → Type
  | [] => Unit
  | x :: r => x.2.T × TL r
def decL : (l : Slots) → Env → Option (TL l)
  | [], _ => some ()
  | x :: r, ρ => match x.2.dec (ρ x.1), decL r ρ with | some a, some b => some (a, b) | _, _ => none
def encL : (l : Slots) → TL l → Env → Env
  | [], _, ρ => ρ
  | x :: r, s, ρ => (encL r s.2 ρ).set x.1 (x.2.enc s.1)
def mask (W : List Nat) (J ρ : Env) : Env := fun t => bif W.any (Nat.beq t) then J t else ρ t

theorem K0.enc_dec {k : K0} {v : Value} {x : k.T} (h : k.dec v = some x) : k.enc x = v := by
  cases k
  case int k =>
    cases v <;> simp only [K0.dec, reduceCtorEq] at h
    rename_i k' n
    split at h
    · rename_i e; subst e; cases h; rfl
    · cases h
  case blk =>
    simp only [K0.dec] at h
    split at h
    · cases h; rfl
    · cases h
  all_goals cases v <;> cases h <;> rfl
theorem K0.encs_decs : ∀ {l : List K0} {vs : List Value} {x : K0.TS l}, K0.decs l vs = some x → K0.encs l x = vs
  | [], [], _, _ => rfl
  | [], _ :: _, _, h => by simp [K0.decs] at h
  | _ :: _, [], _, h => by simp [K0.decs] at h
  | k :: r, v :: vs, x, h => by
    simp only [K0.decs] at h
    split at h
    · rename_i a b ha hb
      cases h
      simp only [K0.encs, K0.enc_dec ha, K0.encs_decs hb]
    · cases h
theorem KA.decA_enc {l : List K0} {v : Value} {x : K0.TS l} (h : KA.decA l v = some x) : Value.agg (K0.encs l x).toArray = v := by
  unfold KA.decA at h
  split at h
  · rw [K0.encs_decs h]
  · cases h
theorem KA.enc_dec : ∀ {k : KA} {v : Value} {x : k.T}, k.dec v = some x → k.enc x = v
  | .one k, v, x, h => K0.enc_dec (k := k) h
  | .agg l, v, x, h => KA.decA_enc (l := l) h

theorem Env.set_same (ρ : Env) (d : Nat) (v : Value) : ρ.set d v d = v := by simp [Env.set]
theorem Env.set_ne (ρ : Env) {d t : Nat} (v : Value) (h : t ≠ d) : ρ.set d v t = ρ t := by
  have : Nat.beq t d = false := Bool.eq_false_iff.2 fun h' => h (Nat.eq_of_beq_eq_true h')
  simp [Env.set, this]
theorem Env.set_id (ρ : Env) {d : Nat} {v : Value} (h : ρ d = v) : ρ.set d v = ρ := by
  funext t
  by_cases e : t = d
  · subst e; rw [Env.set_same, h]
  · rw [Env.set_ne _ _ e]

theorem encL_decL : ∀ {l : Slots} {ρ ρ' : Env} {s : TL l}, decL l ρ = some s → ∀ t, encL l s ρ' t = ρ t ∨ (t ∉ l.map (·.1) ∧ encL l s ρ' t = ρ' t)
  | [], _, _, _, _, t => .inr ⟨by simp, rfl⟩
  | x :: r, ρ, ρ', s, h, t => by
    simp only [decL] at h
    split at h
    · rename_i a b ha hb
      cases h
      by_cases e : t = x.1
      · left; subst e; simp only [encL, Env.set_same]; exact KA.enc_dec ha
      · simp only [encL, Env.set_ne _ _ e]
        rcases encL_decL (ρ' := ρ') hb t with h | ⟨h1, h2⟩
        · exact .inl h
        · exact .inr ⟨by simp only [List.map_cons, List.mem_cons, not_or]; exact ⟨e, h1⟩, h2⟩
    · cases h

/-! ### Semantics of single operations -/
section
variable (P : Program)

def fnR (K : Value → World → Prop) (E : List PanicEntry → World → Prop) : Ending → World → Prop
  | .returned v, w' => K v w'
  | .panicked ch, w' => E ch w'
  | .outgrown, _ => False

/-- A call of a function with a body. (Structures, not definitions: the kernel never opens them when it compares.) -/
structure FN (f : FuncId) (args : Array Value) (w : World) (K : Value → World → Prop) (E : List PanicEntry → World → Prop) : Prop where
  out : Calls P f args w (fnR K E)

theorem FN.mono {P : Program} {f : FuncId} {args : Array Value} {w : World} {K K' : Value → World → Prop} {E E' : List PanicEntry → World → Prop}
    (h : FN P f args w K E) (hk : ∀ v w', K v w' → K' v w') (he : ∀ v w', E v w' → E' v w') : FN P f args w K' E' :=
  ⟨Calls.mono h.out fun e w' => match e with | .returned v => hk v w' | .panicked ch => he ch w' | .outgrown => id⟩

def UPON (K : Value → World → Prop) (E : List PanicEntry → World → Prop) : Result Next → Prop
  | .ok (.value v) w' => K v w'
  | .ok .skip w' => K undef w'
  | .ok (.enter f args) w' => FN P f args w' K E
  | .halt (.panic v) w' => E [{ v, recovered := false }] w'
  | _ => False

/-- An operation of whatever kind, carried out in the world w. -/
structure OPW (s : Sem Next) (w : World) (K : Value → World → Prop) (E : List PanicEntry → World → Prop) : Prop where
  out : UPON P K E (s.run P w)

/-- A call of a function that may have a body, or none. -/
def CALLF (b : Bool) (g : FuncId) (args : Array Value) (s : Sem Next) (w : World) (K : Value → World → Prop) (E : List PanicEntry → World → Prop) : Prop :=
  Bool.rec (OPW P s w K E) (FN P g args w K E) b

/-- The value of an operation that looks at nothing but its operands. -/
def pureRun {α : Type} : Sem α → Option α
  | .pure a => some a
  | .program k => pureRun (k P)
  | .mark _ k => pureRun k
  | _ => none

theorem run_of_pureRun {P : Program} {α : Type} : ∀ {s : Sem α} {a : α}, pureRun P s = some a → ∀ w, s.run P w = .ok a w := by
  intro s
  induction s with
  | pure a => intro b h w; simp [pureRun] at h; simp [Sem.run, h]
  | program k ih => intro b h w; simp only [pureRun] at h; simp only [Sem.run]; exact ih _ h w
  | mark m k ih => intro b h w; simp only [pureRun] at h; simp only [Sem.run]; exact ih h w
  | _ => intro b h; simp [pureRun] at h

def BIF (b : Bool) (A B : Prop) : Prop := Bool.rec B A b

/-- A nil check: the address goes on. -/
def NILCHK (x : Option Addr) (K : Addr → Prop) : Prop := Option.rec False (fun a => K a) x
/-- The address of a slice's element. -/
structure IDX (size : Nat) (a : Option Addr) (l : Nat) (i : Int) (K : Addr → Prop) : Prop where
  lo : 0 ≤ i
  hi : i < (l : Int)
  out : ∃ x, a = some x ∧ K (x.add (i.toNat * size))
end

/-- The address of an array's element. -/
structure IDXA (size len : Nat) (a : Addr) (i : Int) (K : Addr → Prop) : Prop where
  lo : 0 ≤ i
  hi : i < (len : Int)
  out : K (a.add (i.toNat * size))

structure Ctx where
  P : Program
  tk : Nat → Kd
  bd : Nat → Bool

def okCall (P : Program) (g : Nat) : Bool :=
  match P.funcs[g]? with
  | some fn => fn.body.isSome && !(fn.name == "runtime.NumGoroutine")
  | none => false

def elemSize (P : Program) (t : TypeId) : Option Nat :=
  match P.underlying t with
  | some (.slice e) => (match P.info? e with | some i => some i.size | none => none)
  | _ => none

def arrInfo (P : Program) (t : TypeId) : Option (Nat × Nat) :=
  match P.underlying t with
  | some (.array n e) => (match P.info? e with | some i => some (n, i.size) | none => none)
  | _ => none

/-- Does it look at the world, or change it, or may it halt? (Those that don't are reckoned in place.) -/
def memOp (C : Ctx) (o : Oper) : Bool :=
  match o.op with
  | .move _ | .assign _ | .build .. | .fieldAddr .. | .field .. | .unOp .. | .makeInterface .. | .makeFunc .. | .extract .. => false
  | .binOp op t _ y _ =>
    match op with
    | .quo | .rem | .shl | .shr => (match y with | .const _ => false | _ => true)
    | .eql | .neq => (match C.tk t with | .a (.one (.int _)) | .a (.one .bool) | .a (.one .str) => false | _ => true)
    | _ => false
  | .convert s d _ => (match C.tk s, C.tk d with | .a (.one (.int _)), .a (.one (.int _)) => false | _, _ => true)
  | .call { callee := .builtin b, argTypes := ts, .. } =>
    match b with
    | .len | .cap => (match C.tk (ts.getD 0 0) with | .a (.one .slice) | .a (.one .str) => false | _ => true)
    | .min | .max => false
    | _ => true
  | _ => true

/-- May it be taken first in a region that draws (it changes nothing)? -/
def quietOp (o : Oper) : Bool :=
  match o.op with
  | .load .. | .lookup .. | .nilCheck .. | .indexAddr .. | .index .. | .slice .. | .binOp .. | .convert .. | .call { callee := .builtin .len, .. } | .call { callee := .builtin .cap, .. } => true
  | _ => false

/-- The shape of what an operation yields (a hint). -/
def opKind (C : Ctx) (o : Oper) : Kd :=
  match o.op with
  | .alloc _ | .box .. => .a (.one .blk)
  | .binOp op t .. => (match op with | .eql | .neq | .lss | .leq | .gtr | .geq => .a (.one .bool) | _ => C.tk t)
  | .makeSlice .. | .buildSlice .. | .call { callee := .builtin .append, .. } => .a (.one .slice)
  | .call { callee := .builtin .len, .. } | .call { callee := .builtin .cap, .. } | .call { callee := .builtin .copy, .. } => .a (.one (.int .i64))
  | .makeMap .. => .a (.one .map)
  | .slice t .. | .load t _ => C.tk t
  | _ => C.tk o.type

def opw (C : Ctx) (o : Oper) (ρ : Env) (w : World) (K : Value → World → Prop) (E : List PanicEntry → World → Prop) : Prop :=
  match o.op with
  | .pick c a b => (match ev ρ c with | .bool t => BIF t (K (ev ρ a) w) (K (ev ρ b) w) | _ => False)
  | .nilCheck x => (match ev ρ x with | .pointer x => NILCHK x fun a => K (.pointer (some a)) w | _ => OPW C.P (execOp (ev ρ) o) w K E)
  | .indexAddr t x i =>
    (match ev ρ x, ev ρ i with
     | .slice a l _, .int _ n => (match elemSize C.P t with | some sz => IDX sz a l n fun a => K (.pointer (some a)) w | none => False)
     | .pointer (some a), .int _ n => (match arrInfo C.P t with | some z => IDXA z.2 z.1 a n fun a => K (.pointer (some a)) w | none => False)
     | _, _ => OPW C.P (execOp (ev ρ) o) w K E)
  | .call { callee := .value f, args := args, .. } =>
    (match ev ρ f with
     | .func (.func g) first cap =>
       CALLF C.P (C.bd g) g ((first.toList ++ args.toList.map (ev ρ)) ++ cap.toList).toArray (execOp (ev ρ) o) w (fun v w' => TY (C.tk o.type) v fun v => K v w') E
     | _ => OPW C.P (execOp (ev ρ) o) w (fun v w' => TY (C.tk o.type) v fun v => K v w') E)
  | _ =>
    match memOp C o with
    | true => OPW C.P (execOp (ev ρ) o) w (fun v w' => TY (opKind C o) v fun v => K v w') E
    | false => (match pureRun C.P (execOp (ev ρ) o) with | some (.value v) => K v w | _ => False)

/-- The list of a region's operations, in the order of the text. -/
def rgn (C : Ctx) (ops : Array Oper) (Q : Exit → Env → List Deferred → World → Prop) : List Oper → Env → List Deferred → World → Prop
  | [], ρ, ds, w => Q .normal ρ ds w
  | o :: rest, ρ, ds, w =>
    match o.guard with
    | some (j, want) =>
      (match (ops[j]?).bind (·.dst) with
       | some dj =>
         (match ρ dj with
          | .bool b =>
            BIF b
              (match want with
               | true => opw C o (ρ.set dj (.bool true)) w (fun v w' => rgn C ops Q rest ((ρ.set dj (.bool true)).put o.dst v) ds w') (fun ch w' => Q (.panic ch) (ρ.set dj (.bool true)) ds w')
               | false => rgn C ops Q rest ((ρ.set dj (.bool true)).put o.dst undef) ds w)
              (match want with
               | true => rgn C ops Q rest ((ρ.set dj (.bool false)).put o.dst undef) ds w
               | false => opw C o (ρ.set dj (.bool false)) w (fun v w' => rgn C ops Q rest ((ρ.set dj (.bool false)).put o.dst v) ds w') (fun ch w' => Q (.panic ch) (ρ.set dj (.bool false)) ds w'))
          | _ => rgn C ops Q rest (ρ.put o.dst undef) ds w)
       | none => rgn C ops Q rest (ρ.put o.dst undef) ds w)
    | none =>
      match o.op with
      | .defer c => (match pureRun C.P (resolve (ev ρ) c o.type) with | some d => rgn C ops Q rest (ρ.put o.dst undef) (d :: ds) w | none => False)
      | _ => opw C o ρ w (fun v w' => rgn C ops Q rest (ρ.put o.dst v) ds w') (fun ch w' => Q (.panic ch) ρ ds w')

/-! ### Loops, joins -/
inductive LOOP {S : Type} (B : Env → (S → World → Prop) → S → World → Prop) (s : S) (w : World) : Prop where
  | mk (I : S → World → Prop) (μ : S → World → Nat) (h0 : I s w) (hs : ∀ s w, I s w → ∀ J, B J (fun s' w' => I s' w' ∧ μ s' w' < μ s w) s w)
inductive JOIN {S : Type} (A : (S → World → Prop) → Prop) (B : Env → S → World → Prop) : Prop where
  | mk (R : S → World → Prop) (hA : A R) (hB : ∀ s w, R s w → ∀ J, B J s w)

def opsWrites (ops : Array Oper) : List Nat := ops.toList.filterMap (·.dst)
def writes : Code → List Nat
  | .region _ ops _ => opsWrites ops
  | .seq x y => writes x ++ writes y
  | .cond _ x y => writes x ++ writes y
  | .block _ x => writes x
  | .loop x => writes x
  | _ => []

def opsDefer (ops : Array Oper) : Bool := ops.toList.any fun o => match o.op with | .defer _ => true | _ => false
def hasDefer : Code → Bool
  | .region _ ops _ => opsDefer ops
  | .seq x y => hasDefer x || hasDefer y
  | .cond _ x y => hasDefer x || hasDefer y
  | .block _ x => hasDefer x
  | .loop x => hasDefer x
  | _ => false


/-! ### Regions that draw their order -/
/-- Operations that read the world and change nothing: taken first under the region's condition S. -/
def isHeld (o : Oper) : Bool :=
  match o.op with
  | .load .. | .lookup .. | .index .. | .slice .. | .binOp .. | .convert .. | .call { callee := .builtin .len, .. } | .call { callee := .builtin .cap, .. } => true
  | _ => false

def afterMask (o : Oper) : Nat := o.after.toList.foldl (fun m e => bif Region.binds .any e then Nat.lor m (2 ^ e.on) else m) 0
def bit (done i : Nat) : Bool := Nat.beq (Nat.land (Nat.shiftRight done i) 1) 1
def readyB (ops : Array Oper) (done i : Nat) : Bool :=
  match ops[i]? with
  | none => false
  | some o => !bit done i && Nat.beq (Nat.land (afterMask o) done) (afterMask o)
def coverB (ops : Array Oper) (done : Nat) (l : List Nat) : Bool :=
  (match l with | [] => false | x :: _ => readyB ops done x) && (List.range ops.size).all fun k => !readyB ops done k || l.any (Nat.beq k)
/-- All that comes ahead of what stands in the mask (and that itself). -/
def ancMask (ops : Array Oper) (m : Nat) : Nat :=
  (List.range ops.size).reverse.foldl (fun m k => bif bit m k then (match ops[k]? with | some o => Nat.lor m (afterMask o) | none => m) else m) m
def needB (ops : Array Oper) (j : Nat) : Bool :=
  match ops[j]? with
  | none => true
  | some o => (List.range ops.size).any fun i => match ops[i]? with
    | some oi => isHeld oi && !Nat.beq i j && !bit (ancMask ops (afterMask o)) i
    | none => false

/-- Does it leave the world alone? -/
def sameO (C : Ctx) (o : Oper) : Bool := isHeld o || match o.op with | .nilCheck _ | .indexAddr .. | .pick .. => true | _ => !memOp C o

inductive HELD (P : Program) (S : World → World → Prop) (s : Sem Next) (w : World) (φ : Value → Prop) : Prop where
  | mk (v : Value) (hS : S w w) (hr : ∀ w', S w w' → s.run P w' = .ok (.value v) w') (hφ : φ v)

def heldE (C : Ctx) (S : World → World → Prop) (o : Oper) (ρ : Env) (w : World) (φ : Value → Prop) : Prop :=
  match o.op with
  | .pick c a b => (match ev ρ c with | .bool t => BIF t (φ (ev ρ a)) (φ (ev ρ b)) | _ => False)
  | .nilCheck x => (match ev ρ x with | .pointer x => NILCHK x fun a => φ (.pointer (some a)) | _ => False)
  | .indexAddr t x i =>
    (match ev ρ x, ev ρ i with
     | .slice a l _, .int _ n => (match elemSize C.P t with | some sz => IDX sz a l n fun a => φ (.pointer (some a)) | none => False)
     | .pointer (some a), .int _ n => (match arrInfo C.P t with | some z => IDXA z.2 z.1 a n fun a => φ (.pointer (some a)) | none => False)
     | _, _ => False)
  | _ =>
    match memOp C o with
    | true => (match isHeld o with | true => HELD C.P S (execOp (ev ρ) o) w fun v => TY (opKind C o) v φ | false => False)
    | false => (match pureRun C.P (execOp (ev ρ) o) with | some (.value v) => φ v | _ => False)

inductive DT where
  | fin
  | take (i : Nat) (t : DT)
  | split (i : Nat) (t f : DT)
  | cases (l : List Nat) (f : Nat → DT)

def wantedE (ops : Array Oper) (o : Oper) (ρ : Env) : Bool :=
  match o.guard with
  | none => true
  | some (j, want) =>
    match (ops[j]?).bind (·.dst) with
    | none => false
    | some dj => match ρ dj with | .bool b => (match b with | true => want | false => !want) | _ => false

def allL (X : Nat → Prop) : List Nat → Prop
  | [] => True
  | [a] => X a
  | a :: b :: r => X a ∧ allL X (b :: r)

def drawE (C : Ctx) (ops : Array Oper) (Q : Exit → Env → List Deferred → World → Prop) (S : World → World → Prop) : DT → Nat → Env → List Deferred → World → Prop
  | .fin, done, ρ, ds, w => (match Nat.beq done (2 ^ ops.size - 1) with | true => Q .normal ρ ds w | false => False)
  | .take i t, done, ρ, ds, w =>
    (match ops[i]? with
     | none => False
     | some o => match readyB ops done i with
       | false => False
       | true => match wantedE ops o ρ with
         | false => drawE C ops Q S t (Nat.lor done (2 ^ i)) (ρ.put o.dst undef) ds w
         | true => heldE C S o ρ w fun v => drawE C ops Q S t (Nat.lor done (2 ^ i)) (ρ.put o.dst v) ds w)
  | .split i t f, done, ρ, ds, w =>
    (match ops[i]? with
     | none => False
     | some o => match o.guard with
       | none => False
       | some (j, _) => match (ops[j]?).bind (·.dst) with
         | none => False
         | some dj => match ρ dj with
           | .bool b => BIF b (drawE C ops Q S t done (ρ.set dj (.bool true)) ds w) (drawE C ops Q S f done (ρ.set dj (.bool false)) ds w)
           | _ => False)
  | .cases l f, done, ρ, ds, w =>
    (match coverB ops done l with
     | false => False
     | true => allL (fun i =>
        match ops[i]? with
        | none => False
        | some o => match wantedE ops o ρ with
          | false => drawE C ops Q S (f i) (Nat.lor done (2 ^ i)) (ρ.put o.dst undef) ds w
          | true => match sameO C o with
            | true => False
            | false => opw C o ρ w (fun v w' => match needB ops i with
              | true => S w w' ∧ drawE C ops Q S (f i) (Nat.lor done (2 ^ i)) (ρ.put o.dst v) ds w'
              | false => drawE C ops Q S (f i) (Nat.lor done (2 ^ i)) (ρ.put o.dst v) ds w') (fun ch w' => Q (.panic ch) ρ ds w')) l)

def DT.depth : DT → Nat
  | .fin => 0
  | .take _ t => t.depth + 1
  | .split _ t f => max t.depth f.depth
  | .cases l f => (l.map fun i => (f i).depth).foldr max 0 + 1

def depOn (o : Oper) (i : Nat) : Bool := o.after.toList.any fun e => Region.binds .any e && Nat.beq e.on i
/-- Any two operations: one waits for the other, or they are apart. -/
def apartAll (ops : Array Oper) : Bool :=
  (List.range ops.size).all fun i => (List.range ops.size).all fun j =>
    Nat.beq i j || match ops[i]?, ops[j]? with
      | some oi, some oj => depOn oj i || depOn oi j || oi.apart ops oj
      | _, _ => true

def drew (w : World) : World := { w with drawn := w.drawn + 1 }

inductive DRAW (w : World) (A : (World → World → Prop) → World → Prop) : Prop where
  | rel (S : World → World → Prop) (ht : ∀ a b c, S a b → S b c → S a c) (h : A S (drew w))
theorem DRAW.mk {w : World} {A : (World → World → Prop) → World → Prop} (S : World → Prop) (h : A (fun _ w' => S w') (drew w)) : DRAW w A := .rel _ (fun _ _ _ _ h => h) h

/-! ### Code -/
def thenQ (next : Env → List Deferred → World → Prop) (Q : Exit → Env → List Deferred → World → Prop) : Exit → Env → List Deferred → World → Prop
  | .normal, ρ, ds, w => next ρ ds w
  | e, ρ, ds, w => Q e ρ ds w
def blockQ (id : Nat) (Q : Exit → Env → List Deferred → World → Prop) : Exit → Env → List Deferred → World → Prop
  | .exit id', ρ, ds, w => bif Nat.beq id' id then Q .normal ρ ds w else Q (.exit id') ρ ds w
  | e, ρ, ds, w => Q e ρ ds w

inductive Plan where
  | leaf
  | draw (t : DT)
  | two (a b : Plan)
  | join (l : Slots) (a b : Plan)
  | loop (l : Slots) (a : Plan)

def ewp (C : Ctx) : Code → Plan → (Exit → Env → List Deferred → World → Prop) → Env → List Deferred → World → Prop
  | .skip, _, Q, ρ, ds, w => Q .normal ρ ds w
  | .region _ ops d, p, Q, ρ, ds, w =>
    (match d with
     | false => rgn C ops Q ops.toList ρ ds w
     | true => match p with
       | .draw t => DRAW w fun S w1 => drawE C ops Q S t 0 ρ ds w1
       | _ => False)
  | .seq x y, p, Q, ρ, ds, w =>
    (match p with
     | .two a b => ewp C x a (thenQ (fun ρ ds w => ewp C y b Q ρ ds w) Q) ρ ds w
     | .join l a b =>
       JOIN (S := TL l) (fun K => ewp C x a (thenQ (fun ρ' _ w' => match decL l ρ' with | some s => K s w' | none => False) Q) ρ ds w)
         (fun J s w' => ewp C y b Q (encL l s (mask (writes x) J ρ)) ds w')
     | _ => False)
  | .cond c x y, p, Q, ρ, ds, w =>
    (match p with
     | .two a b => (match ev ρ c with | .bool t => BIF t (ewp C x a Q ρ ds w) (ewp C y b Q ρ ds w) | _ => False)
     | _ => False)
  | .block id x, p, Q, ρ, ds, w => ewp C x p (blockQ id Q) ρ ds w
  | .loop x, p, Q, ρ, ds, w =>
    (match p with
     | .loop l a =>
       (match decL l ρ with
        | some s0 => LOOP (S := TL l) (fun J X s w => ewp C x a (thenQ (fun ρ' _ w' => match decL l ρ' with | some s' => X s' w' | none => False) Q) (encL l s (mask (writes x) J ρ)) ds w) s0 w
        | none => False)
     | _ => False)
  | .exit id, _, Q, ρ, ds, w => Q (.exit id) ρ ds w
  | .ret, _, Q, ρ, ds, w => Q .ret ρ ds w
  | _, _, _, _, _, _ => False

/-! ### SOUNDNESS -/
def envOf (a : Act) : Env := fun t => a.tmps.getD t undef

theorem eval_envOf (a : Act) : a.eval = ev (envOf a) := by funext x; cases x <;> rfl

theorem envOf_put (a : Act) (dst : Option Nat) (v : Value) (h : ∀ d, dst = some d → d < a.tmps.size) : envOf (a.put dst v) = (envOf a).put dst v := by
  cases dst with
  | none => rfl
  | some d =>
    funext t
    have hd := h d rfl
    by_cases e : t = d
    · subst e
      rw [Env.put, Env.set_same]
      simp [envOf, Act.put, Array.getD_eq_getD_getElem?, hd]
    · rw [Env.put, Env.set_ne _ _ e]
      have e' : ¬ d = t := fun h => e h.symm
      simp [envOf, Act.put, Array.getD_eq_getD_getElem?, Array.getElem?_setIfInBounds_ne e']

theorem size_put (a : Act) (dst : Option Nat) (v : Value) : (a.put dst v).tmps.size = a.tmps.size := by
  cases dst <;> simp [Act.put]
theorem defers_put (a : Act) (dst : Option Nat) (v : Value) : (a.put dst v).defers = a.defers := by
  cases dst <;> rfl

theorem yielded_env (ops : Array Oper) (a : Act) (j : Nat) :
    yielded ops a.tmps j = match (ops[j]?).bind (·.dst) with
      | some d => (match envOf a d with | .bool b => some b | _ => none)
      | none => none := by
  unfold yielded
  cases h : (ops[j]?).bind (·.dst) with
  | none => rfl
  | some d =>
    simp only [Option.bind_some, envOf, Array.getD_eq_getD_getElem?]
    cases h2 : a.tmps[d]? with
    | none => simp [undef]
    | some v => simp only [Option.getD_some]; cases v <;> rfl

section
variable {C : Ctx} {o : Oper} {a : Act} {w : World} {K : Value → World → Prop} {E : List PanicEntry → World → Prop} {K' : Act → World → Prop} {Q' : Exit → Act → World → Prop}

theorem upon_of_UPON (hk : ∀ v w', K v w' → K' (a.put o.dst v) w') (he : ∀ ch w', E ch w' → Q' (.panic ch) a w') {r : Result Next} (h : UPON C.P K E r) : o.upon C.P a K' Q' r := by
  cases r with
  | ok n w' =>
    cases n <;> simp only [UPON] at h <;> simp only [Oper.upon]
    case value v => exact hk _ _ h
    case skip => exact hk _ _ h
    case enter f args => exact Calls.mono h.out fun e w'' => match e with | .returned v => hk v w'' | .panicked ch => he ch w'' | .outgrown => False.elim
  | halt x w' =>
    cases x <;> simp only [UPON] at h <;> simp only [Oper.upon]
    case panic v => exact he _ _ h

theorem wp_of_OPW (hk : ∀ v w', K v w' → K' (a.put o.dst v) w') (he : ∀ ch w', E ch w' → Q' (.panic ch) a w') (h : OPW C.P (execOp (ev (envOf a)) o) w K E) : o.wp C.P a w K' Q' := by
  unfold Oper.wp
  rw [eval_envOf]
  exact upon_of_UPON hk he h.out

theorem wp_of_run {v : Value} (hr : (execOp (ev (envOf a)) o).run C.P w = .ok (.value v) w) (h : K' (a.put o.dst v) w) : o.wp C.P a w K' Q' := by
  unfold Oper.wp
  rw [eval_envOf, hr]
  exact h

theorem run_pick {P : Program} {ρ : Operand → Value} {o : Oper} {c x y : Operand} {t : Bool} (ho : o.op = .pick c x y) (hc : ρ c = .bool t) (w : World) :
    (execOp ρ o).run P w = .ok (.value (if t then ρ x else ρ y)) w := by
  simp only [execOp, ho, hc]
  cases t <;> simp [asBool, bind, Sem.bind, pure]

theorem run_nilCheck {P : Program} {ρ : Operand → Value} {o : Oper} {x : Operand} {b : Addr} (ho : o.op = .nilCheck x) (hx : ρ x = .pointer (some b)) (w : World) :
    (execOp ρ o).run P w = .ok (.value (.pointer (some b))) w := by
  simp [execOp, ho, hx, pure]

theorem run_indexAddr {P : Program} {ρ : Operand → Value} {o : Oper} {t sz : Nat} {x i : Operand} {b : Addr} {l c : Nat} {k : IntKind} {n : Int} (ho : o.op = .indexAddr t x i)
    (hx : ρ x = .slice (some b) l c) (hi : ρ i = .int k n) (hs : elemSize P t = some sz) (h0 : 0 ≤ n) (hl : n < l) (w : World) :
    (execOp ρ o).run P w = .ok (.value (.pointer (some (b.add (n.toNat * sz))))) w := by
  unfold elemSize at hs
  split at hs
  · rename_i e he
    split at hs
    · rename_i inf hinf
      cases hs
      simp [execOp, ho, hx, hi, Instr.indexAt, asIntOf, run_underlying he, sizeOf, typeInfo, hinf, h0, hl]
    · cases hs
  · cases hs

theorem run_indexArr {P : Program} {ρ : Operand → Value} {o : Oper} {t : Nat} {z : Nat × Nat} {x i : Operand} {b : Addr} {k : IntKind} {n : Int} (ho : o.op = .indexAddr t x i)
    (hx : ρ x = .pointer (some b)) (hi : ρ i = .int k n) (hs : arrInfo P t = some z) (h0 : 0 ≤ n) (hl : n < (z.1 : Int)) (w : World) :
    (execOp ρ o).run P w = .ok (.value (.pointer (some (b.add (n.toNat * z.2))))) w := by
  unfold arrInfo at hs
  split at hs
  · rename_i m e he
    split at hs
    · rename_i inf hinf
      cases hs
      simp [execOp, ho, hx, hi, Instr.indexAt, asIntOf, run_underlying he, sizeOf, typeInfo, hinf, h0, hl, Instr.sureAddr]
    · cases hs
  · cases hs

theorem run_call {P : Program} {g : Nat} (hg : okCall P g = true) (args : Array Value) (w : World) : (callFunc g args).run P w = .ok (.enter g args) w := by
  unfold okCall at hg
  split at hg
  · rename_i fn hf
    simp only [Bool.and_eq_true, Bool.not_eq_true'] at hg
    obtain ⟨hb, hn⟩ := hg
    have hn' : ¬ fn.name = "runtime.NumGoroutine" := by simpa using hn
    have hb' : ¬ fn.body = none := by intro h; simp [h] at hb
    simp [callFunc, hf, hn', hb']
  · cases hg

theorem opw_sound (hC : ∀ g, C.bd g = true → okCall C.P g = true) (hk : ∀ v w', K v w' → K' (a.put o.dst v) w') (he : ∀ ch w', E ch w' → Q' (.panic ch) a w')
    (h : opw C o (envOf a) w K E) : o.wp C.P a w K' Q' := by
  unfold opw at h
  split at h
  · rename_i c x y hop
    split at h
    · rename_i t hc
      refine wp_of_run (run_pick hop hc w) ?_
      cases t
      · exact hk _ _ h
      · exact hk _ _ h
    · exact h.elim
  · rename_i x hop
    split at h
    · rename_i x' hx
      cases x' with
      | none => exact h.elim
      | some b => exact wp_of_run (run_nilCheck hop hx w) (hk _ _ h)
    · exact wp_of_OPW hk he h
  · rename_i t x i hop
    split at h
    · rename_i a' l c k n hx hi
      split at h
      · rename_i sz hs
        obtain ⟨h0, hl, b, rfl, h⟩ := h
        exact wp_of_run (run_indexAddr hop hx hi hs h0 hl w) (hk _ _ h)
      · exact h.elim
    · rename_i b k n hx hi
      split at h
      · rename_i z hs
        obtain ⟨h0, hl, h⟩ := h
        exact wp_of_run (run_indexArr hop hx hi hs h0 hl w) (hk _ _ h)
      · exact h.elim
    · exact wp_of_OPW hk he h
  · rename_i f args ts hop
    split at h
    · rename_i g first cap hf
      unfold CALLF at h
      cases hbd : C.bd g with
      | true =>
        rw [hbd] at h
        have h : FN _ _ _ _ _ _ := h
        have hr : (execOp (ev (envOf a)) o).run C.P w = .ok (.enter g ((first.toList ++ args.toList.map (ev (envOf a))) ++ cap.toList).toArray) w := by
          have e : ((first.toList ++ args.toList.map (ev (envOf a))) ++ cap.toList).toArray = (first ++ args.map (ev (envOf a))) ++ cap := by
            apply Array.toList_inj.1
            simp
          rw [e]
          simp [execOp, hop, resolve, hf, Deferred.ofValue, invoke, run_call (hC g hbd)]
        unfold Oper.wp
        rw [eval_envOf, hr]
        refine Calls.mono h.out fun e w'' h => ?_
        cases e with
        | returned v => exact hk v w'' (TY.elim (φ := fun v => K v w'') h)
        | panicked ch => exact he ch w'' h
        | outgrown => exact h.elim
      | false =>
        rw [hbd] at h
        exact wp_of_OPW (fun v w' h => hk v w' (TY.elim h)) he h
    · exact wp_of_OPW (fun v w' h => hk v w' (TY.elim h)) he h
  · split at h
    · exact wp_of_OPW (fun v w' h => hk v w' (TY.elim h)) he h
    · split at h
      · rename_i v hv
        exact wp_of_run (run_of_pureRun hv w) (hk _ _ h)
      · exact h.elim
end

/-! ### Regions in the order of the text -/
/-- What the soundness proof carries along: the frame's size, what is not written, the deferred calls. -/
def Post (N : Nat) (ρ0 : Env) (W : List Nat) (ds0 : List Deferred) (noD : Bool) (Q : Exit → Env → List Deferred → World → Prop) : Exit → Act → World → Prop :=
  fun e a w => Q e (envOf a) a.defers w ∧ a.tmps.size = N ∧ (∀ t, t ∉ W → envOf a t = ρ0 t) ∧ (noD = true → a.defers = ds0)

def opsFit (N : Nat) (ops : Array Oper) : Bool := ops.toList.all fun o => match o.dst with | some d => Nat.blt d N | none => true

theorem opsFit_get {N : Nat} {ops : Array Oper} (h : opsFit N ops = true) {o : Oper} (ho : o ∈ ops.toList) {d : Nat} (hd : o.dst = some d) : d < N := by
  have := List.all_eq_true.1 h o ho
  rw [hd] at this
  exact Nat.lt_of_lt_of_le (Nat.lt_succ_self d) (Nat.le_of_ble_eq_true this)

structure Keeps (N : Nat) (ρ0 : Env) (W : List Nat) (ds0 : List Deferred) (noD : Bool) (a : Act) : Prop where
  size : a.tmps.size = N
  rest : ∀ t, t ∉ W → envOf a t = ρ0 t
  defs : noD = true → a.defers = ds0

theorem Keeps.put {N : Nat} {ρ0 : Env} {W : List Nat} {ds0 : List Deferred} {noD : Bool} {a : Act} (h : Keeps N ρ0 W ds0 noD a) {dst : Option Nat} (v : Value)
    (hd : ∀ d, dst = some d → d < N ∧ d ∈ W) : Keeps N ρ0 W ds0 noD (a.put dst v) := by
  refine ⟨by rw [size_put]; exact h.size, fun t ht => ?_, fun hn => by rw [defers_put]; exact h.defs hn⟩
  rw [envOf_put a dst v fun d e => by rw [h.size]; exact (hd d e).1]
  cases dst with
  | none => exact h.rest t ht
  | some d =>
    have : t ≠ d := fun e => ht (e ▸ (hd d rfl).2)
    rw [Env.put, Env.set_ne _ _ this]
    exact h.rest t ht

theorem wanted_none {ops : Array Oper} {tmps : Array Value} {o : Oper} (hg : o.guard = none) : Region.wanted o (yielded ops tmps) = true := by simp [Region.wanted, hg]

theorem wanted_some {ops : Array Oper} {a : Act} {o : Oper} {j dj : Nat} {want b : Bool} (hg : o.guard = some (j, want)) (hj : (ops[j]?).bind (·.dst) = some dj) (hb : envOf a dj = .bool b) :
    Region.wanted o (yielded ops a.tmps) = (b == want) := by
  simp [Region.wanted, hg, yielded_env, hj, hb]

theorem wanted_not {ops : Array Oper} {a : Act} {o : Oper} {j : Nat} {want : Bool} (hg : o.guard = some (j, want)) (hj : (ops[j]?).bind (·.dst) = none) :
    Region.wanted o (yielded ops a.tmps) = false := by
  simp [Region.wanted, hg, yielded_env, hj]

theorem wanted_nobool {ops : Array Oper} {a : Act} {o : Oper} {j dj : Nat} {want : Bool} (hg : o.guard = some (j, want)) (hj : (ops[j]?).bind (·.dst) = some dj) (hb : ∀ b, envOf a dj ≠ .bool b) :
    Region.wanted o (yielded ops a.tmps) = false := by
  have : (match envOf a dj with | .bool b => some b | _ => none) = none := by
    split
    · rename_i b h; exact absurd h (hb b)
    · rfl
  unfold Region.wanted
  simp only [hg]
  rw [yielded_env]
  simp only [hj]
  first | rfl | (rw [this]; rfl)

section
variable {C : Ctx} {ops : Array Oper} {Q : Exit → Env → List Deferred → World → Prop} {N : Nat} {ρ0 : Env} {W : List Nat} {ds0 : List Deferred} {noD : Bool}

theorem wpList_skip' {P : Program} {Q : Exit → Act → World → Prop} {a : Act} {w : World} {rest : List Oper} {o : Oper}
    (hw : Region.wanted o (yielded ops a.tmps) = false) (h : wpList P ops Q rest (a.put o.dst undef) w) : wpList P ops Q (o :: rest) a w := by
  simp only [wpList, hw]
  exact h
theorem wpList_do {P : Program} {Q : Exit → Act → World → Prop} {a : Act} {w : World} {rest : List Oper} {o : Oper}
    (hw : Region.wanted o (yielded ops a.tmps) = true) (h : o.wp P a w (wpList P ops Q rest) Q) : wpList P ops Q (o :: rest) a w := by
  simp only [wpList, hw, if_true]
  exact .inl h

theorem rgn_sound (hC : ∀ g, C.bd g = true → okCall C.P g = true) (hfit : opsFit N ops = true) (hW : ∀ o ∈ ops.toList, ∀ d, o.dst = some d → d ∈ W)
    (hD : noD = true → opsDefer ops = false) :
    ∀ (l : List Oper), (∀ o ∈ l, o ∈ ops.toList) → ∀ (a : Act) (w : World), Keeps N ρ0 W ds0 noD a → rgn C ops Q l (envOf a) a.defers w →
      wpList C.P ops (Post N ρ0 W ds0 noD Q) l a w := by
  intro l
  induction l with
  | nil => intro _ a w hk h; exact ⟨h, hk.size, hk.rest, hk.defs⟩
  | cons o rest ih =>
    intro hl a w hk h
    have ho : o ∈ ops.toList := hl o List.mem_cons_self
    have hd : ∀ d, o.dst = some d → d < N ∧ d ∈ W := fun d e => ⟨opsFit_get hfit ho e, hW o ho d e⟩
    have hput : ∀ v, envOf (a.put o.dst v) = (envOf a).put o.dst v := fun v => envOf_put a o.dst v fun d e => by rw [hk.size]; exact (hd d e).1
    have ih' := ih fun o h => hl o (List.mem_cons_of_mem _ h)
    have next : ∀ v w', rgn C ops Q rest ((envOf a).put o.dst v) a.defers w' → wpList C.P ops (Post N ρ0 W ds0 noD Q) rest (a.put o.dst v) w' := fun v w' h =>
      ih' _ _ (hk.put v hd) (by rw [hput, defers_put]; exact h)
    have pan : ∀ ch w', Q (.panic ch) (envOf a) a.defers w' → Post N ρ0 W ds0 noD Q (.panic ch) a w' := fun ch w' h => ⟨h, hk.size, hk.rest, hk.defs⟩
    simp only [rgn] at h
    split at h
    · rename_i j want hg
      split at h
      · rename_i dj hj
        split at h
        · rename_i b hb
          have hw := wanted_some (a := a) hg hj hb
          have hset : ∀ b', envOf a dj = .bool b' → (envOf a).set dj (.bool b') = envOf a := fun b' e => Env.set_id _ e
          cases b with
          | true =>
            simp only [BIF, hset _ hb] at h
            cases want with
            | true => exact wpList_do (by rw [hw]; rfl) (opw_sound hC next pan h)
            | false => exact wpList_skip' (by rw [hw]; rfl) (next _ _ h)
          | false =>
            simp only [BIF, hset _ hb] at h
            cases want with
            | true => exact wpList_skip' (by rw [hw]; rfl) (next _ _ h)
            | false => exact wpList_do (by rw [hw]; rfl) (opw_sound hC next pan h)
        · rename_i hb
          exact wpList_skip' (wanted_nobool hg hj fun b e => hb b e) (next _ _ h)
      · rename_i hj
        exact wpList_skip' (wanted_not hg hj) (next _ _ h)
    · rename_i hg
      split at h
      · rename_i c hop
        split at h
        · rename_i d hres
          refine wpList_do (wanted_none hg) ?_
          have hr := run_of_pureRun hres w
          have hr' : (execOp (ev (envOf a)) o).run C.P w = .ok (.defer d) w := by simp [execOp, hop, hr]
          unfold Oper.wp
          rw [eval_envOf, hr']
          show wpList C.P ops (Post N ρ0 W ds0 noD Q) rest (({ a with defers := d :: a.defers } : Act).put o.dst undef) w
          have hno : noD = true → False := fun hn => by
            have h1 := hD hn
            have : opsDefer ops = true := List.any_eq_true.2 ⟨o, ho, by simp [hop]⟩
            rw [h1] at this; cases this
          have hk1 : Keeps N ρ0 W ds0 noD { a with defers := d :: a.defers } := ⟨hk.size, hk.rest, fun hn => (hno hn).elim⟩
          refine ih' _ _ (hk1.put undef hd) ?_
          rw [defers_put]
          have : envOf (({ a with defers := d :: a.defers } : Act).put o.dst undef) = (envOf a).put o.dst undef := by
            rw [envOf_put _ _ _ fun d e => by rw [hk1.size]; exact (hd d e).1]; rfl
          rw [this]
          exact h
        · exact h.elim
      · exact wpList_do (wanted_none hg) (opw_sound hC next pan h)
end

/-! ### Regions that draw -/
theorem bit_eq (m i : Nat) : bit m i = m.testBit i := by
  have h : Nat.land (Nat.shiftRight m i) 1 = (m >>> i) % 2 := Nat.and_one_is_mod (m >>> i)
  unfold bit
  rw [h, Nat.testBit_eq_decide_div_mod_eq, Nat.shiftRight_eq_div_pow]
  cases h2 : Nat.beq (m / 2 ^ i % 2) 1 with
  | true => simp [Nat.eq_of_beq_eq_true h2]
  | false =>
    have : ¬ m / 2 ^ i % 2 = 1 := fun e => by rw [e] at h2; cases h2
    simp [this]

theorem bit_lor (m k i : Nat) : bit (Nat.lor m k) i = (bit m i || bit k i) := by
  simp only [bit_eq]; exact Nat.testBit_or m k i
theorem bit_pow (k i : Nat) : bit (2 ^ k) i = decide (k = i) := by
  rw [bit_eq, Nat.testBit_two_pow]
theorem bit_zero (i : Nat) : bit 0 i = false := by simp [bit_eq]

theorem bit_afterMask (o : Oper) (x : Nat) : bit (afterMask o) x = true ↔ ∃ e ∈ o.after, Region.binds .any e = true ∧ e.on = x := by
  unfold afterMask
  have key : ∀ (l : List Edge) (m : Nat), bit (l.foldl (fun m e => bif Region.binds .any e then Nat.lor m (2 ^ e.on) else m) m) x = true ↔
      (bit m x = true ∨ ∃ e ∈ l, Region.binds .any e = true ∧ e.on = x) := by
    intro l
    induction l with
    | nil => intro m; simp
    | cons e l ih =>
      intro m
      simp only [List.foldl_cons, ih]
      cases hb : Region.binds .any e with
      | false => simp [hb]
      | true =>
        simp only [cond_true, bit_lor, bit_pow, Bool.or_eq_true, decide_eq_true_eq, List.mem_cons, exists_eq_or_imp, hb, true_and]
        exact ⟨fun h => h.elim (fun h => h.elim .inl fun h => .inr (.inl h)) fun h => .inr (.inr h), fun h => h.elim (fun h => .inl (.inl h)) fun h => h.elim (fun h => .inl (.inr h)) .inr⟩
  rw [key]
  simp [bit_zero]

theorem mask_sub {m d : Nat} : Nat.beq (Nat.land m d) m = true ↔ ∀ x, bit m x = true → bit d x = true := by
  constructor
  · intro h x hx
    have e : m &&& d = m := Nat.eq_of_beq_eq_true h
    rw [bit_eq] at *
    rw [← e, Nat.testBit_and] at hx
    simp at hx
    exact hx.2
  · intro h
    have e : m &&& d = m := by
      apply Nat.eq_of_testBit_eq
      intro i
      rw [Nat.testBit_and]
      have := h i
      rw [bit_eq, bit_eq] at this
      cases hm : m.testBit i with
      | false => simp
      | true => simp [this hm]
    show Nat.beq (m &&& d) m = true
    rw [e]
    exact Nat.beq_refl m

/-- The masks and the model's own table of what has come up. -/
def Rel (done : Nat) (listed : Array Bool) : Prop := ∀ i, listed.getD i false = bit done i

theorem Rel.set {done : Nat} {listed : Array Bool} (h : Rel done listed) {i : Nat} (hi : i < listed.size) : Rel (Nat.lor done (2 ^ i)) (listed.setIfInBounds i true) := by
  intro k
  rw [bit_lor, bit_pow, ← h k]
  by_cases e : i = k
  · subst e; simp [Array.getD_eq_getD_getElem?, hi]
  · rw [getD_set_ne false e]; simp [e]

theorem not_listed {listed : Array Bool} {i : Nat} (hi : i < listed.size) : listed.getD i true = listed.getD i false := by
  simp [Array.getD_eq_getD_getElem?, hi]

theorem readyB_iff {ops : Array Oper} {done : Nat} {listed : Array Bool} (hr : Rel done listed) (hs : listed.size = ops.size) {i : Nat} :
    readyB ops done i = true ↔ i ∈ Region.ready .any ops listed := by
  rw [mem_ready]
  unfold readyB
  cases ho : ops[i]? with
  | none => simp
  | some o =>
    have hlt : i < listed.size := hs ▸ (Array.getElem?_eq_some_iff.1 ho).1
    simp only [Bool.and_eq_true, Bool.not_eq_true', mask_sub, not_listed hlt, hr i, Option.some.injEq, exists_eq_left']
    refine and_congr_right fun _ => ⟨fun h e he hb => ?_, fun h x hx => ?_⟩
    · rw [hr]; exact h _ ((bit_afterMask o e.on).2 ⟨e, he, hb, rfl⟩)
    · obtain ⟨e, he, hb, rfl⟩ := (bit_afterMask o x).1 hx
      rw [← hr]; exact h e he hb

def Closed (ops : Array Oper) (listed : Array Bool) : Prop :=
  ∀ (j : Nat) (o : Oper), ops[j]? = some o → listed.getD j false = true → ∀ e ∈ o.after, Region.binds .any e = true → listed.getD e.on false = true

theorem Closed.set {ops : Array Oper} {listed : Array Bool} (h : Closed ops listed) {i : Nat} (hi : i ∈ Region.ready .any ops listed) : Closed ops (listed.setIfInBounds i true) := by
  intro j o ho hl e he hb
  by_cases hij : i = j
  · subst hij
    obtain ⟨_, o', ho', hall⟩ := mem_ready.1 hi
    rw [ho] at ho'
    cases ho'
    exact getD_set_true (hall e he hb)
  · rw [getD_set_ne false hij] at hl
    exact getD_set_true (h j o ho hl e he hb)

theorem need_of {ops : Array Oper} {listed : Array Bool} (hc : Closed ops listed) {i j : Nat} {oi : Oper} (hi : ops[i]? = some oi) (hh : isHeld oi = true) (hne : j ≠ i)
    (hun : listed.getD i false = false) (hj : j ∈ Region.ready .any ops listed) : needB ops j = true := by
  obtain ⟨_, oj, hoj, hall⟩ := mem_ready.1 hj
  unfold needB
  simp only [hoj]
  refine List.any_eq_true.2 ⟨i, List.mem_range.2 (Array.getElem?_eq_some_iff.1 hi).1, ?_⟩
  simp only [hi, hh, Bool.true_and, Bool.and_eq_true, Bool.not_eq_true']
  refine ⟨Bool.eq_false_iff.2 fun h => hne (Nat.eq_of_beq_eq_true h).symm, ?_⟩
  have sub : ∀ (l : List Nat) (m : Nat), (∀ x, bit m x = true → listed.getD x false = true) →
      ∀ x, bit (l.foldl (fun m k => bif bit m k then (match ops[k]? with | some o => Nat.lor m (afterMask o) | none => m) else m) m) x = true → listed.getD x false = true := by
    intro l
    induction l with
    | nil => intro m h x hx; exact h x hx
    | cons k l ih =>
      intro m h
      simp only [List.foldl_cons]
      refine ih _ ?_
      cases hb : bit m k with
      | false => simpa using h
      | true =>
        simp only [cond_true]
        cases hk : ops[k]? with
        | none => exact h
        | some o =>
          intro x hx
          simp only [bit_lor, Bool.or_eq_true] at hx
          rcases hx with hx | hx
          · exact h x hx
          · obtain ⟨e, he, hbd, rfl⟩ := (bit_afterMask o x).1 hx
            exact hc k o hk (h k hb) e he hbd
  cases hbit : bit (ancMask ops (afterMask oj)) i with
  | false => rfl
  | true =>
    have := sub _ _ (fun x hx => by obtain ⟨e, he, hb, rfl⟩ := (bit_afterMask oj x).1 hx; exact hall e he hb) i hbit
    rw [hun] at this
    cases this

section
variable {C : Ctx} {ops : Array Oper} {Q : Exit → Act → World → Prop} {S : World → World → Prop}

def quietAt (C : Ctx) (ops : Array Oper) (i : Nat) (a : Act) : Bool := match ops[i]? with | some o => !(Region.wanted o (yielded ops a.tmps)) || sameO C o | none => true
/-- What an operation may have done to the world. -/
def Cl (C : Ctx) (ops : Array Oper) (S : World → World → Prop) (i : Nat) (a : Act) (w w' : World) : Prop := (quietAt C ops i a = true → w' = w) ∧ (quietAt C ops i a = false → needB ops i = true → S w w')

def wpAnyG (C : Ctx) (ops : Array Oper) (Q : Exit → Act → World → Prop) (S : World → World → Prop) : Nat → Array Bool → Act → World → Prop
  | 0, listed, a, w => Region.ready .any ops listed = [] ∧ Q .normal a w
  | fuel + 1, listed, a, w =>
    (Region.ready .any ops listed = [] → Q .normal a w) ∧
    ∀ i ∈ Region.ready .any ops listed, wpOp C.P ops Q i (fun a' w' => Cl C ops S i a w w' ∧ wpAnyG C ops Q S fuel (listed.setIfInBounds i true) a' w') a w

theorem wpAny_of_G : ∀ (fuel : Nat) (listed : Array Bool) (a : Act) (w : World), wpAnyG C ops Q S fuel listed a w → wpAny C.P .any ops Q fuel listed a w
  | 0, _, _, _, h => h
  | fuel + 1, _, _, _, h => ⟨h.1, fun i hi => wpOp_mono (fun a' w' h' => wpAny_of_G fuel _ a' w' h'.2) (h.2 i hi)⟩

theorem wpOp_dst {P : Program} {j : Nat} {oj : Oper} (hj : ops[j]? = some oj) {K : Act → World → Prop} {a : Act} {w : World} (h : wpOp P ops Q j K a w) :
    wpOp P ops Q j (fun a' w' => K a' w' ∧ ∃ u D, a' = ({ a with defers := D } : Act).put oj.dst u) a w := by
  unfold wpOp at *
  simp only [hj] at *
  split
  · rename_i hw
    simp only [hw, if_true] at h
    rcases h with h | h
    case inr => exact .inr h
    refine .inl ?_
    unfold Oper.wp at *
    generalize (execOp a.eval oj).run P w = r at *
    cases r with
    | ok n w' =>
      cases n <;> simp only [Oper.upon] at h ⊢
      case value u => exact ⟨h, u, a.defers, rfl⟩
      case skip => exact ⟨h, undef, a.defers, rfl⟩
      case defer d => exact ⟨h, undef, d :: a.defers, rfl⟩
      case enter f args =>
        refine Calls.mono h fun e w'' he => ?_
        cases e with
        | returned u => exact ⟨he, u, a.defers, rfl⟩
        | panicked c => exact he
        | outgrown => exact he
      case row row args => exact Rows.mono h fun u w'' he => ⟨he, u, a.defers, rfl⟩
    | halt x w' =>
      cases x <;> simp only [Oper.upon] at h ⊢
      case panic u => exact h
  · rename_i hw
    simp only [hw] at h
    exact ⟨h, undef, a.defers, rfl⟩

theorem wpAnyG_first {i : Nat} {oi : Oper} {v : Value} {T : World → Prop} (hi : ops[i]? = some oi) (hsel : ∀ (j : Nat) (o : Oper) cs b, ops[j]? = some o → o.op ≠ .select cs b)
    (hQ : ∀ c a w, Q (.panic c) (a.put oi.dst v) w → Q (.panic c) a w)
    (hap : ∀ j oj, ops[j]? = some oj → j ≠ i → depOn oj i = true ∨ depOn oi j = true ∨ oi.apart ops oj = true)
    (hT : ∀ (listed : Array Bool) (j : Nat) (a : Act) (w w' : World), Closed ops listed → listed.getD i false = false → j ≠ i → j ∈ Region.ready .any ops listed → T w → Cl C ops S j a w w' → T w') :
    ∀ (fuel : Nat) (listed : Array Bool) (a : Act) (w : World), listed.size = ops.size → Closed ops listed →
      i ∈ Region.ready .any ops listed → YieldsIf C.P ops T oi v a → quietAt C ops i a = true → T w →
      wpAnyG C ops Q S fuel (listed.setIfInBounds i true) (a.put oi.dst v) w → wpAnyG C ops Q S (fuel + 1) listed a w := by
  intro fuel
  induction fuel with
  | zero =>
    intro listed a w hsz hc hr hy hq hS H
    refine ⟨fun h => (by rw [h] at hr; cases hr), fun j hj => ?_⟩
    by_cases hji : j = i
    · subst hji; exact hy.wpOp hi hS ⟨⟨fun _ => rfl, fun h => by rw [hq] at h; cases h⟩, H⟩
    · have := ready_mono hj hji
      rw [H.1] at this
      cases this
  | succ fuel ih =>
    intro listed a w hsz hc hr hy hq hS H
    have hlt : i < listed.size := hsz ▸ (Array.getElem?_eq_some_iff.1 hi).1
    have hun : listed.getD i false = false := by rw [← not_listed hlt]; exact (mem_ready.1 hr).1
    refine ⟨fun h => (by rw [h] at hr; cases hr), fun j hj => ?_⟩
    by_cases hji : j = i
    · subst hji; exact hy.wpOp hi hS ⟨⟨fun _ => rfl, fun h => by rw [hq] at h; cases h⟩, H⟩
    · have h1 := H.2 j (ready_mono hj hji)
      obtain ⟨hjun, oj, hoj, hall⟩ := mem_ready.1 hj
      have hltj : j < listed.size := hsz ▸ (Array.getElem?_eq_some_iff.1 hoj).1
      have hapart : oi.apart ops oj = true := by
        rcases hap j oj hoj hji with h | h | h
        · exfalso
          obtain ⟨e, he, hb⟩ := List.any_eq_true.1 h
          simp only [Bool.and_eq_true] at hb
          have := hall e (by simpa using he) hb.1
          rw [Nat.eq_of_beq_eq_true hb.2, hun] at this
          cases this
        · exfalso
          obtain ⟨_, oi', hoi', halli⟩ := mem_ready.1 hr
          rw [hi] at hoi'; cases hoi'
          obtain ⟨e, he, hb⟩ := List.any_eq_true.1 h
          simp only [Bool.and_eq_true] at hb
          have := halli e (by simpa using he) hb.1
          rw [Nat.eq_of_beq_eq_true hb.2, ← not_listed hltj, hjun] at this
          cases this
        · exact h
      obtain ⟨ha1, ha2, ha3⟩ := Oper.apart_spec hapart
      have hqj : quietAt C ops j (a.put oi.dst v) = quietAt C ops j a := by
        unfold quietAt; simp only [hoj]; rw [wanted_put oj a oi.dst v ha1]
      have h2 := wpOp_putIf hoj hapart (fun cs b => hsel i oi cs b hi) (fun cs b => hsel j oj cs b hoj) hQ hy h1
      refine wpOp_mono (fun a' w' h3 => ?_) (wpOp_dst hoj h2)
      obtain ⟨⟨h4, h5, h6⟩, u, D, hu⟩ := h3
      have hcl : Cl C ops S j a w w' := by unfold Cl at *; rw [hqj] at h5; exact h5
      refine ⟨hcl, ih (listed.setIfInBounds j true) a' w' (by simpa using hsz) (hc.set hj) (ready_mono hr (Ne.symm hji)) h4 ?_ (hT listed j a w w' hc hun hji hj hS hcl) ?_⟩
      · subst hu
        have hwi : Region.wanted oi (yielded ops (({ a with defers := D } : Act).put oj.dst u).tmps) = Region.wanted oi (yielded ops a.tmps) := wanted_put oi _ oj.dst u ha3
        have : quietAt C ops i (({ a with defers := D } : Act).put oj.dst u) = quietAt C ops i a := by unfold quietAt; simp only [hi, hwi]
        rw [this]; exact hq
      · rw [Array.setIfInBounds_comm _ _ hji]
        exact h6

theorem wpOp_monoQ {P : Program} {ops : Array Oper} {Q Q' : Exit → Act → World → Prop} (hq : ∀ e a w, Q e a w → Q' e a w) {j : Nat} {K : Act → World → Prop} {a : Act} {w : World}
    (h : wpOp P ops Q j K a w) : wpOp P ops Q' j K a w := by
  unfold wpOp at *
  split
  · rename_i ho; simpa [ho] using h
  · rename_i o ho
    simp only [ho] at h
    split
    · rename_i hw
      simp only [hw, if_true] at h
      rcases h with h | ⟨h, a, w, h'⟩
      case inr => exact .inr ⟨h, a, w, hq _ _ _ h'⟩
      refine .inl ?_
      unfold Oper.wp at *
      generalize (execOp _ o).run P _ = r at *
      cases r with
      | ok n w' =>
        cases n <;> simp only [Oper.upon] at h ⊢ <;> first
          | exact h
          | (refine Calls.mono h fun e w'' he => ?_; cases e with
              | returned u => exact he
              | panicked c => exact hq _ _ _ he
              | outgrown => obtain ⟨a, w, he⟩ := he; exact ⟨a, w, hq _ _ _ he⟩)
      | halt x w' => cases x <;> simp only [Oper.upon] at h ⊢; exact hq _ _ _ h
    · rename_i hw; simpa [hw] using h

theorem wpAnyG_all {fuel : Nat} {listed : Array Bool} {a : Act} {w : World} (hne : Region.ready .any ops listed ≠ [])
    (h : ∀ i ∈ Region.ready .any ops listed, wpOp C.P ops Q i (fun a' w' => Cl C ops S i a w w' ∧ wpAnyG C ops Q S fuel (listed.setIfInBounds i true) a' w') a w) : wpAnyG C ops Q S (fuel + 1) listed a w :=
  ⟨fun h0 => absurd h0 hne, h⟩

theorem wpAnyG_done {listed : Array Bool} {a : Act} {w : World} (hr : Region.ready .any ops listed = []) (h : Q .normal a w) : ∀ fuel, wpAnyG C ops Q S fuel listed a w
  | 0 => ⟨hr, h⟩
  | _ + 1 => ⟨fun _ => h, by rw [hr]; simp⟩
end

theorem wpAnyG_mono {C : Ctx} {ops : Array Oper} {S : World → World → Prop} {Q Q' : Exit → Act → World → Prop} (hq : ∀ e a w, Q e a w → Q' e a w) :
    ∀ (fuel : Nat) (listed : Array Bool) (a : Act) (w : World), wpAnyG C ops Q S fuel listed a w → wpAnyG C ops Q' S fuel listed a w
  | 0, _, _, _, h => ⟨h.1, hq _ _ _ h.2⟩
  | fuel + 1, _, _, _, h => ⟨fun h0 => hq _ _ _ (h.1 h0), fun i hi => wpOp_monoQ hq (wpOp_mono (fun a' w' h' => ⟨h'.1, wpAnyG_mono hq fuel _ a' w' h'.2⟩) (h.2 i hi))⟩

theorem held_sound {C : Ctx} {S : World → World → Prop} {o : Oper} {a : Act} {w : World} {φ : Value → Prop} (h : heldE C S o (envOf a) w φ) :
    sameO C o = true ∧ ∃ v, φ v ∧ ((∀ w, (execOp a.eval o).run C.P w = .ok (.value v) w) ∨ (isHeld o = true ∧ S w w ∧ ∀ w', S w w' → (execOp a.eval o).run C.P w' = .ok (.value v) w')) := by
  rw [eval_envOf]
  unfold heldE at h
  split at h
  · rename_i c x y hop
    refine ⟨by simp [sameO, hop], ?_⟩
    split at h
    · rename_i t hc
      refine ⟨_, ?_, .inl fun w => run_pick hop hc w⟩
      cases t
      · exact h
      · exact h
    · exact h.elim
  · rename_i x hop
    refine ⟨by simp [sameO, hop], ?_⟩
    split at h
    · rename_i x' hx
      cases x' with
      | none => exact h.elim
      | some b => exact ⟨_, h, .inl fun w => run_nilCheck hop hx w⟩
    · exact h.elim
  · rename_i t x i hop
    refine ⟨by simp [sameO, hop], ?_⟩
    split at h
    · rename_i a' l c k n hx hi
      split at h
      · rename_i sz hs
        obtain ⟨h0, hl, b, rfl, h⟩ := h
        exact ⟨_, h, .inl fun w => run_indexAddr hop hx hi hs h0 hl w⟩
      · exact h.elim
    · rename_i b k n hx hi
      split at h
      · rename_i z hs
        obtain ⟨h0, hl, h⟩ := h
        exact ⟨_, h, .inl fun w => run_indexArr hop hx hi hs h0 hl w⟩
      · exact h.elim
    · exact h.elim
  · rename_i hne1 hne2 hne3
    split at h
    · split at h
      · rename_i hh
        obtain ⟨v, hS, hr, h⟩ := h
        exact ⟨by simp [sameO, hh], v, TY.elim h, .inr ⟨hh, hS, hr⟩⟩
      · exact h.elim
    · rename_i hm
      split at h
      · rename_i v hv
        exact ⟨by unfold sameO; split <;> simp [hm], v, h, .inl fun w => run_of_pureRun hv w⟩
      · exact h.elim

theorem allL_mem {X : Nat → Prop} : ∀ {l : List Nat}, allL X l → ∀ i ∈ l, X i
  | [], _, i, h => by cases h
  | [a], h, i, hi => by simp at hi; subst hi; exact h
  | a :: b :: r, h, i, hi => by
    rcases List.mem_cons.1 hi with e | e
    · subst e; exact h.1
    · exact allL_mem h.2 i e

/-- Panics say the same whatever stands in these slots. -/
def Insens (D : List Nat) (dsP : List Deferred → Prop) (Q : Exit → Env → List Deferred → World → Prop) : Prop :=
  ∀ ch ρ ρ' ds w, dsP ds → (∀ t, t ∉ D → ρ t = ρ' t) → Q (.panic ch) ρ ds w → Q (.panic ch) ρ' ds w

theorem envOf_put_ne (a : Act) (dst : Option Nat) (v : Value) {t : Nat} (h : ∀ d, dst = some d → t ≠ d) : envOf (a.put dst v) t = envOf a t := by
  cases dst with
  | none => rfl
  | some d =>
    have e' : ¬ d = t := fun e => h d rfl e.symm
    simp [envOf, Act.put, Array.getD_eq_getD_getElem?, Array.getElem?_setIfInBounds_ne e']

section
variable {C : Ctx} {ops : Array Oper} {Q : Exit → Env → List Deferred → World → Prop} {S : World → World → Prop} {N : Nat} {ρ0 : Env} {W : List Nat} {ds0 : List Deferred} {D : List Nat} {dsP : List Deferred → Prop}

theorem wanted_E {a : Act} {o : Oper} : Region.wanted o (yielded ops a.tmps) = wantedE ops o (envOf a) := by
  unfold wantedE
  split
  · rename_i hg; exact wanted_none hg
  · rename_i j want hg
    split
    · rename_i hj; exact wanted_not hg hj
    · rename_i dj hj
      split
      · rename_i b hb; rw [wanted_some hg hj hb]; cases b <;> cases want <;> rfl
      · rename_i hb; exact wanted_nobool hg hj fun b e => hb b e

theorem draw_sound (hC : ∀ g, C.bd g = true → okCall C.P g = true) (hfit : opsFit N ops = true) (hW : ∀ o ∈ ops.toList, ∀ d, o.dst = some d → d ∈ W)
    (hDr : ∀ o ∈ ops.toList, ∀ d, o.dst = some d → d ∈ D) (hQ : Insens D dsP Q) (hP : dsP ds0) (hsel : Region.noSelect ops = true) (hap : apartAll ops = true) (htr : ∀ a b c, S a b → S b c → S a c) :
    ∀ (t : DT) (done : Nat) (listed : Array Bool) (fuel : Nat) (a : Act) (w : World), Rel done listed → listed.size = ops.size → Closed ops listed → t.depth ≤ fuel → Keeps N ρ0 W ds0 true a →
      drawE C ops Q S t done (envOf a) a.defers w → wpAnyG C ops (Post N ρ0 W ds0 true Q) S fuel listed a w := by
  have hdst : ∀ {i : Nat} {o : Oper}, ops[i]? = some o → o ∈ ops.toList := fun ho => Array.mem_toList_iff.2 (Array.mem_of_getElem? ho)
  have hpost : ∀ {i : Nat} {o : Oper}, ops[i]? = some o → ∀ v c a w, Post N ρ0 W ds0 true Q (.panic c) (a.put o.dst v) w → Post N ρ0 W ds0 true Q (.panic c) a w := by
    intro i o ho v c a w ⟨h1, h2, h3, h4⟩
    have hmem := hdst ho
    refine ⟨?_, by rw [size_put] at h2; exact h2, fun t ht => ?_, fun hn => by have := h4 hn; rwa [defers_put] at this⟩
    · rw [defers_put] at h1
      exact hQ _ _ _ _ _ (by rw [← defers_put a o.dst v, h4 rfl]; exact hP) (fun t ht => envOf_put_ne a o.dst v fun d e e' => ht (e' ▸ hDr o hmem d e)) h1
    · rw [← h3 t ht]
      exact (envOf_put_ne a o.dst v (t := t) fun d e e' => ht (by rw [e']; exact hW o hmem d e)).symm
  have hapi : ∀ {i : Nat} {oi : Oper}, ops[i]? = some oi → ∀ (j : Nat) (oj : Oper), ops[j]? = some oj → j ≠ i → depOn oj i = true ∨ depOn oi j = true ∨ oi.apart ops oj = true := by
    intro i oi hi j oj hj hne
    have h1 := List.all_eq_true.1 hap i (List.mem_range.2 (Array.getElem?_eq_some_iff.1 hi).1)
    have h2 := List.all_eq_true.1 h1 j (List.mem_range.2 (Array.getElem?_eq_some_iff.1 hj).1)
    simp only [hi, hj, Bool.or_eq_true] at h2
    rcases h2 with h2 | (h2 | h2) | h2
    · exact absurd (Nat.eq_of_beq_eq_true h2).symm hne
    · exact .inl h2
    · exact .inr (.inl h2)
    · exact .inr (.inr h2)
  have hput : ∀ {i : Nat} {o : Oper} {a : Act}, ops[i]? = some o → Keeps N ρ0 W ds0 true a → ∀ v, envOf (a.put o.dst v) = (envOf a).put o.dst v ∧ Keeps N ρ0 W ds0 true (a.put o.dst v) := by
    intro i o a ho hk v
    have hmem := hdst ho
    exact ⟨envOf_put a o.dst v fun d e => by rw [hk.size]; exact opsFit_get hfit hmem e, hk.put v fun d e => ⟨opsFit_get hfit hmem e, hW o hmem d e⟩⟩
  intro t
  induction t with
  | fin =>
    intro done listed fuel a w hrel hsz hcl hf hk h
    simp only [drawE] at h
    split at h
    · rename_i hb
      refine wpAnyG_done ?_ ⟨h, hk.size, hk.rest, hk.defs⟩ fuel
      rw [List.eq_nil_iff_forall_not_mem]
      intro i hi
      have h0 := (mem_ready.1 hi).1
      obtain ⟨_, o, ho, _⟩ := mem_ready.1 hi
      have hlt : i < ops.size := (Array.getElem?_eq_some_iff.1 ho).1
      rw [not_listed (hsz ▸ hlt), hrel i, Nat.eq_of_beq_eq_true hb, bit_eq, Nat.testBit_two_pow_sub_one] at h0
      simp [hlt] at h0
    · exact h.elim
  | take i t ih =>
    intro done listed fuel a w hrel hsz hcl hf hk h
    simp only [drawE] at h
    split at h
    · exact h.elim
    rename_i o ho
    split at h
    · exact h.elim
    rename_i hrdy
    have hr : i ∈ Region.ready .any ops listed := (readyB_iff hrel hsz).1 hrdy
    have hlt : i < listed.size := hsz ▸ (Array.getElem?_eq_some_iff.1 ho).1
    obtain ⟨fuel, rfl⟩ : ∃ f, fuel = f + 1 := ⟨fuel - 1, by simp only [DT.depth] at hf; omega⟩
    have hf' : t.depth ≤ fuel := by simp only [DT.depth] at hf; omega
    have next : ∀ v, drawE C ops Q S t (Nat.lor done (2 ^ i)) ((envOf a).put o.dst v) a.defers w →
        wpAnyG C ops (Post N ρ0 W ds0 true Q) S fuel (listed.setIfInBounds i true) (a.put o.dst v) w := fun v h =>
      ih _ _ fuel _ w (hrel.set hlt) (by simpa using hsz) (hcl.set hr) hf' (hput ho hk v).2 (by rw [(hput ho hk v).1, defers_put]; exact h)
    split at h
    · rename_i hw
      rw [← wanted_E] at hw
      exact wpAnyG_first ho (Region.noSelect_spec hsel) (hpost ho undef) (hapi ho) (T := fun _ => True) (fun _ _ _ _ _ _ _ _ _ _ _ => trivial) fuel listed a w hsz hcl hr
        (.inr ⟨hw, rfl⟩) (by unfold quietAt; simp [ho, hw]) trivial (next _ h)
    · rename_i hw
      rw [← wanted_E] at hw
      obtain ⟨hsame, v, hφ, hv⟩ := held_sound h
      have hq : quietAt C ops i a = true := by unfold quietAt; simp [ho, hsame]
      rcases hv with hv | ⟨hh, hS, hv⟩
      · exact wpAnyG_first ho (Region.noSelect_spec hsel) (hpost ho v) (hapi ho) (T := fun _ => True) (fun _ _ _ _ _ _ _ _ _ _ _ => trivial) fuel listed a w hsz hcl hr
          (.inl ⟨hw, fun w _ => hv w⟩) hq trivial (next _ hφ)
      · refine wpAnyG_first ho (Region.noSelect_spec hsel) (hpost ho v) (hapi ho) (T := S w) (fun l j a w1 w2 hc hun hne hj hSw hcl => ?_) fuel listed a w hsz hcl hr (.inl ⟨hw, hv⟩) hq hS (next _ hφ)
        cases hqj : quietAt C ops j a with
        | true => rw [hcl.1 hqj]; exact hSw
        | false => exact htr _ _ _ hSw (hcl.2 hqj (need_of hc ho hh hne hun hj))
  | split i t f iht ihf =>
    intro done listed fuel a w hrel hsz hcl hf hk h
    simp only [drawE] at h
    split at h
    · exact h.elim
    split at h
    · exact h.elim
    split at h
    · exact h.elim
    split at h
    · rename_i b hb
      have hfd : max t.depth f.depth ≤ fuel := hf
      cases b with
      | true =>
        simp only [BIF, Env.set_id _ hb] at h
        exact iht done listed fuel a w hrel hsz hcl (by omega) hk h
      | false =>
        simp only [BIF, Env.set_id _ hb] at h
        exact ihf done listed fuel a w hrel hsz hcl (by omega) hk h
    · exact h.elim
  | cases l f ih =>
    intro done listed fuel a w hrel hsz hcl hf hk h
    simp only [drawE] at h
    split at h
    · exact h.elim
    rename_i hcov
    obtain ⟨fuel, rfl⟩ : ∃ g, fuel = g + 1 := ⟨fuel - 1, by simp only [DT.depth] at hf; omega⟩
    have hdep : ∀ i ∈ l, (f i).depth ≤ fuel := by
      have h1 : (l.map fun i => (f i).depth).foldr max 0 ≤ fuel := by simp only [DT.depth] at hf; omega
      intro i hi
      refine Nat.le_trans ?_ h1
      clear h1 hf hcov h
      induction l with
      | nil => cases hi
      | cons x l ihl =>
        simp only [List.map_cons, List.foldr_cons]
        rcases List.mem_cons.1 hi with e | e
        · subst e; omega
        · have := ihl e; omega
    have hall : ∀ i ∈ Region.ready .any ops listed, wpOp C.P ops (Post N ρ0 W ds0 true Q) i (fun a' w' => Cl C ops S i a w w' ∧ wpAnyG C ops (Post N ρ0 W ds0 true Q) S fuel (listed.setIfInBounds i true) a' w') a w := by
      intro i hr
      obtain ⟨_, o, ho, _⟩ := mem_ready.1 hr
      have hlt : i < listed.size := hsz ▸ (Array.getElem?_eq_some_iff.1 ho).1
      have hil : i ∈ l := by
        have h1 := List.all_eq_true.1 (Bool.and_eq_true_iff.1 hcov).2 i (List.mem_range.2 (hsz ▸ hlt))
        rw [(readyB_iff hrel hsz).2 hr] at h1
        simpa using h1
      have h' := allL_mem h i hil
      simp only [ho] at h'
      have next : ∀ v w', drawE C ops Q S (f i) (Nat.lor done (2 ^ i)) ((envOf a).put o.dst v) a.defers w' →
          wpAnyG C ops (Post N ρ0 W ds0 true Q) S fuel (listed.setIfInBounds i true) (a.put o.dst v) w' := fun v w' h =>
        ih i _ _ fuel _ w' (hrel.set hlt) (by simpa using hsz) (hcl.set hr) (hdep i hil) (hput ho hk v).2 (by rw [(hput ho hk v).1, defers_put]; exact h)
      unfold wpOp
      simp only [ho]
      split at h'
      · rename_i hw
        rw [← wanted_E] at hw
        rw [if_neg (by simp [hw])]
        exact ⟨⟨fun _ => rfl, fun hq => by unfold quietAt at hq; simp [ho, hw] at hq⟩, next _ _ h'⟩
      · rename_i hw
        rw [← wanted_E] at hw
        rw [if_pos hw]
        split at h'
        · exact h'.elim
        rename_i hsame
        have hq : quietAt C ops i a = false := by unfold quietAt; simp [ho, hsame, hw]
        refine .inl (opw_sound hC (fun v w' hv => ?_) (fun ch w' he => ⟨he, hk.size, hk.rest, hk.defs⟩) h')
        split at hv
        · exact ⟨⟨fun h => (by rw [hq] at h; cases h), fun _ _ => hv.1⟩, next _ _ hv.2⟩
        · rename_i hn
          exact ⟨⟨fun h => (by rw [hq] at h; cases h), fun _ h => (by rw [hn] at h; cases h)⟩, next _ _ hv⟩
    refine ⟨fun h0 => ?_, hall⟩
    exfalso
    have h1 := (Bool.and_eq_true_iff.1 hcov).1
    cases l with
    | nil => cases h1
    | cons x l =>
      have h2 := (readyB_iff hrel hsz).1 h1
      rw [h0] at h2
      cases h2
end

/-! ### Code -/
def okC (N : Nat) (D : List Nat) : Code → Plan → Bool
  | .region _ ops d, p => opsFit N ops && (match d with
      | false => true
      | true => (match p with
        | .draw t => Region.noSelect ops && Nat.ble t.depth ops.size && apartAll ops && (opsWrites ops).all fun x => D.any (Nat.beq x)
        | _ => false))
  | .seq x y, p => (match p with
      | .two a b => okC N D x a && okC N D y b
      | .join _ a b => okC N D x a && okC N D y b && !hasDefer x
      | _ => false)
  | .cond _ x y, p => (match p with | .two a b => okC N D x a && okC N D y b | _ => false)
  | .block _ x, p => okC N D x p
  | .loop x, p => (match p with | .loop _ a => okC N D x a && !hasDefer x | _ => false)
  | _, _ => true

theorem Post.mono {N : Nat} {ρ0 ρ1 : Env} {W W' : List Nat} {ds0 ds1 : List Deferred} {n n' : Bool} {Q Q' : Exit → Env → List Deferred → World → Prop} {e e' : Exit} {a : Act} {w : World}
    (h : Post N ρ0 W ds0 n Q e a w) (hQ : Q e (envOf a) a.defers w → Q' e' (envOf a) a.defers w) (hρ : ∀ t, t ∉ W' → t ∉ W ∧ ρ0 t = ρ1 t) (hd : n' = true → n = true ∧ ds0 = ds1) : Post N ρ1 W' ds1 n' Q' e' a w :=
  ⟨hQ h.1, h.2.1, fun t ht => (h.2.2.1 t (hρ t ht).1).trans (hρ t ht).2, fun hn => (h.2.2.2 (hd hn).1).trans (hd hn).2⟩

theorem Insens.thenQ {D : List Nat} {dsP : List Deferred → Prop} {next : Env → List Deferred → World → Prop} {Q : Exit → Env → List Deferred → World → Prop} (h : Insens D dsP Q) : Insens D dsP (thenQ next Q) := h
theorem Insens.blockQ {D : List Nat} {dsP : List Deferred → Prop} {id : Nat} {Q : Exit → Env → List Deferred → World → Prop} (h : Insens D dsP Q) : Insens D dsP (blockQ id Q) := h

theorem mem_opsWrites {ops : Array Oper} {o : Oper} (ho : o ∈ ops.toList) {d : Nat} (hd : o.dst = some d) : d ∈ opsWrites ops :=
  List.mem_filterMap.2 ⟨o, ho, hd⟩

theorem env_back {l : Slots} {W : List Nat} {ρ ρ0 : Env} {s : TL l} (hs : decL l ρ = some s) (hW : ∀ t, t ∉ W → ρ t = ρ0 t) : encL l s (mask W ρ ρ0) = ρ := by
  funext t
  rcases encL_decL (ρ' := mask W ρ ρ0) hs t with h | ⟨_, h⟩
  · exact h
  · rw [h]
    unfold mask
    cases hb : W.any (Nat.beq t) with
    | true => rfl
    | false =>
      refine (hW t fun hm => ?_).symm
      have := List.any_eq_true.2 ⟨t, hm, Nat.beq_refl t⟩
      rw [hb] at this
      cases this

theorem ewp_sound {C : Ctx} (hC : ∀ g, C.bd g = true → okCall C.P g = true) (hm : C.P.follows .mixedOrders = true) {N : Nat} {D : List Nat} {dsP : List Deferred → Prop} :
    ∀ (c : Code) (p : Plan) (Q : Exit → Env → List Deferred → World → Prop) (a : Act) (w : World), okC N D c p = true → a.tmps.size = N → Insens D dsP Q → (hasDefer c = true → ∀ ds, dsP ds) → dsP a.defers →
      ewp C c p Q (envOf a) a.defers w → c.wp C.P (Post N (envOf a) (writes c) a.defers (!hasDefer c) Q) a w := by
  intro c
  induction c with
  | skip => intro p Q a w hok hN hQ hP hP' h; exact wp_skip ⟨h, hN, fun _ _ => rfl, fun _ => rfl⟩
  | region id ops d =>
    intro p Q a w hok hN hQ hP hP' h
    simp only [okC, Bool.and_eq_true] at hok
    obtain ⟨hfit, hok⟩ := hok
    have hk : Keeps N (envOf a) (opsWrites ops) a.defers (!opsDefer ops) a := ⟨hN, fun _ _ => rfl, fun _ => rfl⟩
    cases d with
    | false =>
      refine wp_region_list ?_
      exact rgn_sound hC hfit (fun o ho d hd => mem_opsWrites ho hd) (fun hn => by have hn : (!opsDefer ops) = true := hn; simpa using hn) ops.toList (fun _ h => h) a w hk h
    | true =>
      cases p with
      | draw t =>
        simp only [Bool.and_eq_true] at hok
        obtain ⟨⟨⟨hsel, hdep⟩, hap⟩, hD⟩ := hok
        obtain ⟨S, htr, h⟩ := h
        refine wp_region_any hm (wpAny_of_G (C := C) (S := S) _ _ _ _ ?_)
        have hk1 : Keeps N (envOf a) (opsWrites ops) a.defers true a := ⟨hN, fun _ _ => rfl, fun _ => rfl⟩
        have := draw_sound (S := S) (Q := Q) (dsP := dsP) (D := D) hC hfit (fun o ho d hd => mem_opsWrites ho hd) (fun o ho d hd => by
            have := List.all_eq_true.1 hD d (mem_opsWrites ho hd)
            obtain ⟨x, hx, hb⟩ := List.any_eq_true.1 this
            exact (Nat.eq_of_beq_eq_true hb) ▸ hx) hQ hP' hsel hap htr t 0 (Array.replicate ops.size false) ops.size a (drew w)
          (fun i => by rw [bit_zero]; simp only [Array.getD_eq_getD_getElem?, Array.getElem?_replicate]; split <;> rfl) (by simp)
          (fun j o _ hl => by exfalso; simp only [Array.getD_eq_getD_getElem?, Array.getElem?_replicate] at hl; split at hl <;> cases hl)
          (Nat.le_of_ble_eq_true hdep) hk1 h
        refine wpAnyG_mono (fun e a w h => ?_) _ _ _ _ this
        exact h.mono (fun h => h) (fun t ht => ⟨ht, rfl⟩) (fun _ => ⟨rfl, rfl⟩)
      | _ => exact h.elim
  | seq x y ihx ihy =>
    intro p Q a w hok hN hQ hP hP' h
    cases p with
    | two pa pb =>
      simp only [okC, Bool.and_eq_true] at hok
      have hx := ihx pa _ a w hok.1 hN hQ.thenQ (fun h => hP (by simp [hasDefer, h])) hP' h
      refine wp_seq (wp_mono hx fun e a' w' hp => ?_)
      have hdx : (!(hasDefer x || hasDefer y)) = true → (!hasDefer x) = true ∧ (!hasDefer y) = true := by simp
      cases e with
      | normal =>
        have hPa : dsP a'.defers := by
          cases hd : hasDefer x with
          | true => exact hP (by simp [hasDefer, hd]) _
          | false => rw [hp.2.2.2 (by simp [hd])]; exact hP'
        have hy := ihy pb Q a' w' hok.2 hp.2.1 hQ (fun h => hP (by simp [hasDefer, h])) hPa hp.1
        refine wp_mono hy fun e a'' w'' hp' => ?_
        refine hp'.mono id (fun t ht => ?_) fun hn => ⟨(hdx hn).2, hp.2.2.2 (hdx hn).1⟩
        simp only [writes, List.mem_append, not_or] at ht
        exact ⟨ht.2, hp.2.2.1 t ht.1⟩
      | _ => exact hp.mono id (fun t ht => ⟨fun h => ht (by simp [writes, h]), rfl⟩) fun hn => ⟨(hdx hn).1, rfl⟩
    | join l pa pb =>
      simp only [okC, Bool.and_eq_true, Bool.not_eq_true'] at hok
      obtain ⟨⟨hokx, hoky⟩, hnd⟩ := hok
      obtain ⟨R, hA, hB⟩ := h
      have hx := ihx pa _ a w hokx hN hQ.thenQ (fun h => hP (by simp [hasDefer, h])) hP' hA
      refine wp_seq (wp_mono hx fun e a' w' hp => ?_)
      have hdx : (!(hasDefer x || hasDefer y)) = true → (!hasDefer x) = true ∧ (!hasDefer y) = true := by simp
      cases e with
      | normal =>
        have hda : a'.defers = a.defers := hp.2.2.2 (by simp [hnd])
        have h1 : (match decL l (envOf a') with | some s => R s w' | none => False) := hp.1
        split at h1
        · rename_i s hs
          have h2 : ewp C y pb Q (encL l s (mask (writes x) (envOf a') (envOf a))) a.defers w' := hB s w' h1 (envOf a')
          rw [env_back hs hp.2.2.1, ← hda] at h2
          have hy := ihy pb Q a' w' hoky hp.2.1 hQ (fun h => hP (by simp [hasDefer, h])) (hda ▸ hP') h2
          refine wp_mono hy fun e a'' w'' hp' => ?_
          refine hp'.mono id (fun t ht => ?_) fun hn => ⟨(hdx hn).2, hda⟩
          simp only [writes, List.mem_append, not_or] at ht
          exact ⟨ht.2, hp.2.2.1 t ht.1⟩
        · exact h1.elim
      | _ => exact hp.mono id (fun t ht => ⟨fun h => ht (by simp [writes, h]), rfl⟩) fun hn => ⟨(hdx hn).1, rfl⟩
    | _ => exact h.elim
  | cond c x y ihx ihy =>
    intro p Q a w hok hN hQ hP hP' h
    cases p with
    | two pa pb =>
      simp only [okC, Bool.and_eq_true] at hok
      simp only [ewp] at h
      have hdx : (!(hasDefer x || hasDefer y)) = true → (!hasDefer x) = true ∧ (!hasDefer y) = true := by simp
      split at h
      · rename_i t ht
        refine wp_cond (t := t) (by rw [eval_envOf]; exact ht) ?_
        cases t with
        | true =>
          have hx := ihx pa Q a w hok.1 hN hQ (fun h => hP (by simp [hasDefer, h])) hP' h
          exact wp_mono hx fun e a' w' hp => hp.mono id (fun t ht => ⟨fun h => ht (by simp [writes, h]), rfl⟩) fun hn => ⟨(hdx hn).1, rfl⟩
        | false =>
          have hx := ihy pb Q a w hok.2 hN hQ (fun h => hP (by simp [hasDefer, h])) hP' h
          exact wp_mono hx fun e a' w' hp => hp.mono id (fun t ht => ⟨fun h => ht (by simp [writes, h]), rfl⟩) fun hn => ⟨(hdx hn).2, rfl⟩
      · exact h.elim
    | _ => exact h.elim
  | block id x ih =>
    intro p Q a w hok hN hQ hP hP' h
    refine wp_block (wp_mono (ih p _ a w hok hN hQ.blockQ hP hP' h) fun e a' w' hp => ?_)
    cases e with
    | exit id' =>
      have h1 : (bif Nat.beq id' id then Q .normal (envOf a') a'.defers w' else Q (.exit id') (envOf a') a'.defers w') := hp.1
      show if id' = id then _ else _
      by_cases hid : id' = id
      · rw [if_pos hid]
        refine hp.mono (fun _ => ?_) (fun t ht => ⟨ht, rfl⟩) fun hn => ⟨hn, rfl⟩
        rw [hid, Nat.beq_refl] at h1
        exact h1
      · rw [if_neg hid]
        refine hp.mono (fun _ => ?_) (fun t ht => ⟨ht, rfl⟩) fun hn => ⟨hn, rfl⟩
        have hb : Nat.beq id' id = false := Bool.eq_false_iff.2 fun h => hid (Nat.eq_of_beq_eq_true h)
        rw [hb] at h1
        exact h1
    | _ => exact hp
  | loop x ih =>
    intro p Q a w hok hN hQ hP hP' h
    cases p with
    | loop l q =>
      simp only [okC, Bool.and_eq_true, Bool.not_eq_true'] at hok
      obtain ⟨hokx, hnd⟩ := hok
      simp only [ewp] at h
      split at h
      · rename_i s0 hs0
        obtain ⟨I, μ, hI, hstep⟩ := h
        refine wp_loop (fun a' w' => ∃ s, decL l (envOf a') = some s ∧ I s w' ∧ a'.tmps.size = N ∧ (∀ t, t ∉ writes x → envOf a' t = envOf a t) ∧ a'.defers = a.defers)
          (fun a' w' => match decL l (envOf a') with | some s => μ s w' | none => 0) ⟨s0, hs0, hI, hN, fun _ _ => rfl, rfl⟩ ?_
        rintro a' w' ⟨s, hs, hI', hN', hu, hd⟩
        have h1 : ewp C x q (thenQ (fun ρ' _ w'' => match decL l ρ' with | some s' => I s' w'' ∧ μ s' w'' < μ s w' | none => False) Q) (encL l s (mask (writes x) (envOf a') (envOf a))) a.defers w' := hstep s w' hI' (envOf a')
        rw [env_back hs hu, ← hd] at h1
        have h2 := ih q _ a' w' hokx hN' hQ.thenQ hP (hd ▸ hP') h1
        refine wp_mono h2 fun e a'' w'' hp => ?_
        cases e with
        | normal =>
          have h3 : (match decL l (envOf a'') with | some s' => I s' w'' ∧ μ s' w'' < μ s w' | none => False) := hp.1
          split at h3
          · rename_i s' hs'
            refine ⟨⟨s', hs', h3.1, hp.2.1, fun t ht => (hp.2.2.1 t ht).trans (hu t ht), (hp.2.2.2 (by simp [hnd])).trans hd⟩, ?_⟩
            simp only [hs, hs']
            exact h3.2
          · exact h3.elim
        | _ => exact hp.mono id (fun t ht => ⟨ht, hu t ht⟩) fun hn => ⟨hn, hd⟩
      · exact h.elim
    | _ => exact h.elim
  | exit id => intro p Q a w hok hN hQ hP hP' h; exact wp_exit ⟨h, hN, fun _ _ => rfl, fun _ => rfl⟩
  | ret => intro p Q a w hok hN hQ hP hP' h; exact wp_ret ⟨h, hN, fun _ _ => rfl, fun _ => rfl⟩
  | _ => intro p Q a w hok hN hQ hP hP' h; exact h.elim

/-! ### Functions -/
def resE (fn : Func) (ρ : Env) : Sem Value := do
  let vs ← fn.results.mapM fun
    | .tmp t => pure (ρ t)
    | .cell a t => do loadVar t (← asAddr (ρ a))
  pure (if h : vs.size = 1 then vs[0] else .tuple vs)

theorem resE_eq (fn : Func) (a : Act) : results fn a.tmps = resE fn (envOf a) := rfl

inductive RV where | val (v : Value) | cell (a : Value) (t : TypeId)

/-- A result that lives in memory. -/
inductive RCELL (P : Program) (t : TypeId) (a : Value) (w : World) (φ : Value → Prop) : Prop where
  | mk (v : Value) (hr : (do loadVar t (← asAddr a) : Sem Value).run P w = .ok v w) (hφ : φ v)

def RESV (P : Program) (w : World) : List RV → List Value → (List Value → Prop) → Prop
  | [], acc, φ => φ acc
  | .val v :: r, acc, φ => RESV P w r (acc ++ [v]) φ
  | .cell a t :: r, acc, φ => RCELL P t a w fun v => RESV P w r (acc ++ [v]) φ

def rv (ρ : Env) : ResultVar → RV
  | .tmp t => .val (ρ t)
  | .cell a t => .cell (ρ a) t

def tupled : List Value → Value
  | [v] => v
  | vs => .tuple vs.toArray

/-- The results, read off the frame (or off memory, where they live there). -/
def RES (P : Program) (fn : Func) (ρ : Env) (w : World) (K : Value → World → Prop) : Prop := RESV P w (fn.results.toList.map (rv ρ)) [] fun vs => K (tupled vs) w

def rd (ρ : Env) (r : ResultVar) : Sem Value :=
  match r with
  | .tmp t => pure (ρ t)
  | .cell a t => do loadVar t (← asAddr (ρ a))

theorem RESV.out {P : Program} {ρ : Env} {w : World} {φ : List Value → Prop} : ∀ {l : List ResultVar} {acc : List Value}, RESV P w (l.map (rv ρ)) acc φ →
    ∃ vs, (l.mapM (rd ρ)).run P w = .ok vs w ∧ φ (acc ++ vs)
  | [], acc, h => ⟨[], rfl, by rw [List.append_nil]; exact h⟩
  | .tmp t :: r, acc, h => by
    obtain ⟨vs, hr, hφ⟩ := RESV.out (l := r) (acc := acc ++ [ρ t]) h
    exact ⟨ρ t :: vs, by rw [List.mapM_cons]; simp [rd, hr], by simpa using hφ⟩
  | .cell a t :: r, acc, h => by
    obtain ⟨v, hv, h⟩ := h
    obtain ⟨vs, hr, hφ⟩ := RESV.out (l := r) (acc := acc ++ [v]) h
    have hv' : (rd ρ (.cell a t)).run P w = .ok v w := hv
    exact ⟨v :: vs, by rw [List.mapM_cons, Sem.run_bind, hv']; simp [hr], by simpa using hφ⟩

theorem RES.out {P : Program} {fn : Func} {ρ : Env} {w : World} {K : Value → World → Prop} (h : RES P fn ρ w K) : ∃ v, (resE fn ρ).run P w = .ok v w ∧ K v w := by
  obtain ⟨vs, hr, hK⟩ := RESV.out h
  refine ⟨tupled vs, ?_, by simpa using hK⟩
  have e : resE fn ρ = (do let vs ← fn.results.mapM (rd ρ); pure (if h : vs.size = 1 then vs[0] else .tuple vs)) := by
    unfold resE
    congr 1
  rw [e, Array.mapM_eq_mapM_toList, Sem.run_bind, Sem.run_map, hr]
  cases vs with
  | nil => rfl
  | cons v r =>
    cases r with
    | nil => rfl
    | cons u r => simp [tupled]

/-- A deferred call, made as the frame is left. -/
inductive DEFER (P : Program) (d : Deferred) (u : FrameMode) (w : World) (Kr : FrameMode → World → Prop) (Kp : List PanicEntry → FrameMode → World → Prop) : Prop where
  | mk (hu : u ≠ .run) (fv : Fn) (cap : Array Value) (f : FuncId) (args : Array Value) (ht : d.target = .fn fv cap) (hi : (invoke d.target d.args).run P w = .ok (.enter f args) w)
    (hc : CallsD P f args u w fun
      | .returned _, u', w' => Kr u' w'
      | .panicked chain, u', w' => Kp chain u' w'
      | .outgrown, _, _ => False)

def LV (P : Program) (fn : Func) (ρ : Env) (K : Value → World → Prop) (E : List PanicEntry → World → Prop) : List Deferred → FrameMode → World → Prop
  | [], u, w => (match u with | .returning => RES P fn ρ w K | .panicking ch => E ch w | .run => False)
  | d :: ds, u, w => DEFER P d u w (fun u' w' => LV P fn ρ K E ds (settle u') w') (fun ch u' w' => LV P fn ρ K E ds (raised u' ch) w')

def LVEND (u : FrameMode) (A : Prop) (E : List PanicEntry → World → Prop) (w : World) : Prop := match u with | .returning => A | .panicking ch => E ch w | .run => False

def retQ (P : Program) (fn : Func) (K : Value → World → Prop) (E : List PanicEntry → World → Prop) : Exit → Env → List Deferred → World → Prop
  | .normal, ρ, ds, w => LV P fn ρ K E ds .returning w
  | .ret, ρ, ds, w => LV P fn ρ K E ds .returning w
  | .panic ch, ρ, ds, w => LV P fn ρ K E ds (.panicking ch) w
  | _, _, _, _ => False

theorem leaves_of_LV {P : Program} {fn : Func} {a : Act} {K : Value → World → Prop} {E : List PanicEntry → World → Prop} :
    ∀ (ds : List Deferred) (u : FrameMode) (w : World), LV P fn (envOf a) K E ds u w → Leaves P fn a.tmps (fnR K E) ds u w
  | [], u, w, h => by
    cases u with
    | run => exact h.elim
    | returning =>
      obtain ⟨v, hr, hk⟩ := RES.out h
      exact ⟨v, by rw [resE_eq]; exact hr, hk⟩
    | panicking ch => exact h
  | d :: ds, u, w, h => by
    obtain ⟨hu, fv, cap, f, args, ht, hi, hc⟩ := h
    refine ⟨hu, fv, cap, f, args, ht, hi, hc.mono fun e u' w' he => ?_⟩
    cases e with
    | returned v => exact leaves_of_LV ds _ _ he
    | panicked ch => exact leaves_of_LV ds _ _ he
    | outgrown => exact he.elim

theorem envOf_start (l : List Value) (n : Nat) : envOf { tmps := l.toArray ++ Array.replicate n undef, defers := [] } = argEnv l := by
  funext t
  simp only [envOf, argEnv, Array.getD_eq_getD_getElem?, List.getD_eq_getElem?_getD, Array.getElem?_append, Array.getElem?_replicate]
  simp only [List.size_toArray, List.getElem?_toArray]
  split
  · rfl
  · rename_i h
    rw [List.getElem?_eq_none (by omega)]
    split <;> rfl

/-- **THE BRIDGE**: the syntactic precondition of a function's body gives its contract. -/
theorem FN_of_ewp {C : Ctx} (hC : ∀ g, C.bd g = true → okCall C.P g = true) (hm : C.P.follows .mixedOrders = true) {f : FuncId} {fn : Func} {c : Code} (hf : C.P.funcs[f]? = some fn) (hb : fn.body = some c)
    {args : List Value} (hl : args.length ≤ fn.ntmps) {p : Plan} (hok : okC fn.ntmps (bif hasDefer c then [] else writes c) c p = true) {w : World} {K : Value → World → Prop} {E : List PanicEntry → World → Prop}
    (h : ewp C c p (retQ C.P fn K E) (argEnv args) [] w) : FN C.P f args.toArray w K E := by
  have hsz : (args.toArray ++ Array.replicate (fn.ntmps - args.toArray.size) undef).size = fn.ntmps := by simp; omega
  refine ⟨calls_of_wp_defers (R := fnR K E) hf hb ?_⟩
  rw [← envOf_start args (fn.ntmps - args.toArray.size)] at h
  have key : ∀ (D : List Nat) (dsP : List Deferred → Prop), okC fn.ntmps D c p = true → Insens D dsP (retQ C.P fn K E) → (hasDefer c = true → ∀ ds, dsP ds) → dsP [] →
      c.wp C.P (bodyPostD C.P fn (fnR K E)) { tmps := args.toArray ++ Array.replicate (fn.ntmps - args.toArray.size) undef, defers := [] } w := by
    intro D dsP hok hi hP hP'
    refine wp_mono (ewp_sound (dsP := dsP) hC hm c p _ _ w hok hsz hi hP hP' h) fun e a w hp => ?_
    cases e with
    | normal => exact leaves_of_LV _ _ _ hp.1
    | ret => exact leaves_of_LV _ _ _ hp.1
    | panic ch => exact leaves_of_LV _ _ _ hp.1
    | exit id => exact hp.1.elim
    | goto l => exact hp.1.elim
    | outgrown => exact hp.1.elim
  cases hd : hasDefer c with
  | true =>
    rw [hd] at hok
    refine key [] (fun _ => True) hok (fun ch ρ ρ' ds w _ he h => ?_) (fun _ _ => trivial) trivial
    have : ρ = ρ' := funext fun t => he t (by simp)
    exact this ▸ h
  | false =>
    rw [hd] at hok
    refine key (writes c) (fun ds => ds = []) hok (fun ch ρ ρ' ds w hds he h => ?_) (fun h => by rw [hd] at h; cases h) rfl
    subst hds
    exact h

/-! ### Words of the printed propositions -/
def sV (s : Sem Value) : Sem Next := do pure (.value (← s))
def sU (s : Sem Unit) : Sem Next := do s; pure .skip
def sB (op : BinOp) (t : TypeId) (x y : Value) (g : Sem Unit) : Sem Next := sV (do g; binOp op t x y)
/-- A call of a function value that is not known yet. -/
def sC (f : Value) (args : Array Value) : Sem Next := do
  let d ← Deferred.ofValue f args
  invoke d.target d.args
/-- A builtin that touches memory. -/
def sBI (b : Builtin) (ts : Array TypeId) (t : TypeId) (cs : Array Bool) (args : Array Value) : Sem Next := do
  let d ← (pure { target := .builtin b ts t cs, args := args } : Sem Deferred)
  invoke d.target d.args
theorem sBI_append (ts : Array TypeId) (t : TypeId) (cs : Array Bool) (args : Array Value) : sBI .append ts t cs args = sV (Builtin.append_ ts t args) := rfl
theorem sBI_copy (ts : Array TypeId) (t : TypeId) (cs : Array Bool) (args : Array Value) : sBI .copy ts t cs args = sV (Builtin.copy_ ts t args) := rfl
theorem sBI_clear (ts : Array TypeId) (t : TypeId) (cs : Array Bool) (args : Array Value) : sBI .clear ts t cs args = sV (Builtin.clear_ ts t args) := rfl
theorem sBI_len (ts : Array TypeId) (t : TypeId) (cs : Array Bool) (args : Array Value) : sBI .len ts t cs args = sV (Builtin.len_ ts t args) := rfl
theorem sBI_delete (ts : Array TypeId) (t : TypeId) (cs : Array Bool) (args : Array Value) : sBI .delete ts t cs args = sV (Builtin.delete_ ts t args) := rfl
/-- A call of a method through an interface value. -/
def sI (m : String) (recv : Value) (args : Array Value) : Sem Next := invoke (.fn (.method m) #[]) (#[recv] ++ args)
def bits (op : BinOp) (k : IntKind) (x y : Int) : Int :=
  match op with
  | .and => k.wrap (BitVec.ofInt k.bits x &&& BitVec.ofInt k.bits y).toNat
  | .or => k.wrap (BitVec.ofInt k.bits x ||| BitVec.ofInt k.bits y).toNat
  | .xor => k.wrap (BitVec.ofInt k.bits x ^^^ BitVec.ofInt k.bits y).toNat
  | .andNot => k.wrap (BitVec.ofInt k.bits x &&& ~~~(BitVec.ofInt k.bits y)).toNat
  | _ => 0

theorem ok_of_mask {P : Program} (n mask : Nat) (hn : mask < 2 ^ n) (h : (List.range n).all (fun g => !bit mask g || okCall P g) = true) (g : Nat) (hg : bit mask g = true) : okCall P g = true := by
  have hlt : g < n := by
    rcases Nat.lt_or_ge g n with h' | h'
    · exact h'
    · rw [bit_eq, Nat.testBit_lt_two_pow (Nat.lt_of_lt_of_le hn (Nat.pow_le_pow_right (by decide) h'))] at hg
      cases hg
  have := List.all_eq_true.1 h g (List.mem_range.2 hlt)
  rw [hg] at this
  simpa using this

end Go.Lift
