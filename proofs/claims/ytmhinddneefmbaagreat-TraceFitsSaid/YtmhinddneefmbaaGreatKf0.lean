/- A part of the proof of JdH. -/
import Derived.WalkKit
import Derived.Deep.LoopGhost
import Derived.Deep.MidRow
import Derived.OrdersIn
import Derived.RangeFuncRecord
import Derived.Laws.BytesArg
set_option linter.unusedSimpArgs false
set_option linter.unusedVariables false
set_option linter.unusedSectionVars false
namespace Go.Proofs.YtmhinddneefmbaaGreat.Pe
open Go
inductive Tr (α : Type) where
  | leaf
  | node (v : Option α) (l r : Tr α)
namespace Tr
noncomputable def get {α : Type} (t : Tr α) : Nat → Option α :=
  Tr.rec (motive := fun _ => Nat → Option α) (fun _ => none) (fun v _ _ gl gr n => Nat.rec (motive := fun _ => Option α) v (fun m _ => Nat.rec (motive := fun _ => Option α) (gl (Nat.div m 2)) (fun _ _ => gr (Nat.div m 2)) (Nat.mod m 2)) n) t
noncomputable def setL {α : Type} (x : Option α) (f : Nat) : Nat → Tr α :=
  Nat.rec (motive := fun _ => Nat → Tr α) (fun _ => .leaf) (fun _ ih n => Nat.rec (motive := fun _ => Tr α) (.node x .leaf .leaf) (fun m _ => Nat.rec (motive := fun _ => Tr α) (.node none (ih (Nat.div m 2)) .leaf) (fun _ _ => .node none .leaf (ih (Nat.div m 2))) (Nat.mod m 2)) n) f
noncomputable def set {α : Type} (x : Option α) (f : Nat) (t : Tr α) : Nat → Tr α :=
  Tr.rec (motive := fun _ => Nat → Tr α) (setL x f) (fun v l r ihl ihr n => Nat.rec (motive := fun _ => Tr α) (.node x l r) (fun m _ => Nat.rec (motive := fun _ => Tr α) (.node v (ihl (Nat.div m 2)) r) (fun _ _ => .node v l (ihr (Nat.div m 2))) (Nat.mod m 2)) n) t
theorem nrec {α : Type} (n : Nat) (x y : α) : Nat.rec (motive := fun _ => α) x (fun _ _ => y) (Nat.mod n 2) = if n % 2 = 0 then x else y := by
  show Nat.rec (motive := fun _ => α) x (fun _ _ => y) (n % 2) = _
  generalize n % 2 = k
  cases k with
  | zero => rfl
  | succ k => rw [if_neg (by omega)]
theorem get_leaf {α : Type} (n : Nat) : (Tr.leaf : Tr α).get n = none := rfl
theorem get_zero {α : Type} (v : Option α) (l r : Tr α) : (Tr.node v l r).get 0 = v := rfl
theorem get_succ {α : Type} (v : Option α) (l r : Tr α) (n : Nat) : (Tr.node v l r).get (n + 1) = if n % 2 = 0 then l.get (n / 2) else r.get (n / 2) := nrec n _ _
theorem setL_zero {α : Type} (x : Option α) (f : Nat) : setL x (f + 1) 0 = .node x .leaf .leaf := rfl
theorem setL_succ {α : Type} (x : Option α) (f n : Nat) : setL x (f + 1) (n + 1) = if n % 2 = 0 then .node none (setL x f (n / 2)) .leaf else .node none .leaf (setL x f (n / 2)) := nrec n _ _
theorem set_leaf {α : Type} (x : Option α) (f n : Nat) : set x f .leaf n = setL x f n := rfl
theorem set_node0 {α : Type} (x v : Option α) (l r : Tr α) (f : Nat) : set x f (.node v l r) 0 = .node x l r := rfl
theorem set_nodeS {α : Type} (x v : Option α) (l r : Tr α) (f n : Nat) : set x f (.node v l r) (n + 1) = if n % 2 = 0 then .node v (set x f l (n / 2)) r else .node v l (set x f r (n / 2)) := nrec n _ _
theorem get_setL {α : Type} (x : Option α) : ∀ (f : Nat) (n : Nat), n < 2 ^ f - 1 → ∀ m, (setL x f n).get m = if m = n then x else none
  | 0, n, h, m => by simp at h
  | f + 1, 0, h, m => by
    rw [setL_zero]
    cases m with
    | zero => rfl
    | succ m =>
      rw [get_succ, if_neg (show ¬ m + 1 = 0 by omega)]
      split <;> rfl
  | f + 1, n + 1, h, m => by
    have h2 : n / 2 < 2 ^ f - 1 := by
      have : 2 ^ (f + 1) = 2 * 2 ^ f := by rw [Nat.pow_succ]; omega
      omega
    rw [setL_succ]
    split
    · cases m with
      | zero => rfl
      | succ m =>
        rw [get_succ, get_leaf]
        split
        · rw [get_setL x f (n / 2) h2]
          by_cases e : m / 2 = n / 2
          · rw [if_pos e, if_pos (by omega)]
          · rw [if_neg e, if_neg (by omega)]
        · rw [if_neg (by omega)]
    · cases m with
      | zero => rfl
      | succ m =>
        rw [get_succ, get_leaf]
        split
        · rw [if_neg (by omega)]
        · rw [get_setL x f (n / 2) h2]
          by_cases e : m / 2 = n / 2
          · rw [if_pos e, if_pos (by omega)]
          · rw [if_neg e, if_neg (by omega)]
theorem get_set {α : Type} (x : Option α) (f : Nat) : ∀ (t : Tr α) (n : Nat), n < 2 ^ f - 1 → ∀ m, (t.set x f n).get m = if m = n then x else t.get m
  | .leaf, n, h, m => by
    rw [set_leaf, get_setL x f n h]
    rfl
  | .node v l r, 0, h, m => by
    rw [set_node0]
    cases m with
    | zero => rfl
    | succ m => rw [get_succ, get_succ, if_neg (show ¬ m + 1 = 0 by omega)]
  | .node v l r, n + 1, h, m => by
    have h2 : n / 2 < 2 ^ f - 1 := by omega
    rw [set_nodeS]
    split
    · cases m with
      | zero => rfl
      | succ m =>
        rw [get_succ, get_succ]
        split
        · rw [get_set x f l (n / 2) h2]
          by_cases e : m / 2 = n / 2
          · rw [if_pos e, if_pos (by omega)]
          · rw [if_neg e, if_neg (by omega)]
        · rw [if_neg (by omega)]
    · cases m with
      | zero => rfl
      | succ m =>
        rw [get_succ, get_succ]
        split
        · rw [if_neg (by omega)]
        · rw [get_set x f r (n / 2) h2]
          by_cases e : m / 2 = n / 2
          · rw [if_pos e, if_pos (by omega)]
          · rw [if_neg e, if_neg (by omega)]
theorem setL_set {α : Type} (x y : Option α) (g : Nat) : ∀ (f : Nat) (n : Nat), n < 2 ^ f - 1 → (setL y f n).set x g n = setL x f n
  | 0, n, h => by simp at h
  | f + 1, 0, h => rfl
  | f + 1, n + 1, h => by
    have h2 : n / 2 < 2 ^ f - 1 := by
      have : 2 ^ (f + 1) = 2 * 2 ^ f := by rw [Nat.pow_succ]; omega
      omega
    rw [setL_succ, setL_succ]
    split
    · rename_i e; rw [set_nodeS, if_pos e, setL_set x y g f (n / 2) h2]
    · rename_i e; rw [set_nodeS, if_neg e, setL_set x y g f (n / 2) h2]
theorem set_set {α : Type} (x y : Option α) (f : Nat) : ∀ (t : Tr α) (n : Nat), n < 2 ^ f - 1 → (t.set y f n).set x f n = t.set x f n
  | .leaf, n, h => setL_set x y f f n h
  | .node v l r, 0, h => rfl
  | .node v l r, n + 1, h => by
    have h2 : n / 2 < 2 ^ f - 1 := by omega
    simp only [set_nodeS]
    split
    · rename_i e; rw [set_nodeS, if_pos e, set_set x y f l (n / 2) h2]
    · rename_i e; rw [set_nodeS, if_neg e, set_set x y f r (n / 2) h2]
end Tr
inductive D where
  | int (k : IntKind) (n : Int)
  | bool (b : Bool)
  | str (s : ByteArray)
  | sl (rows : List (List D))
  | ptr (o sz i off : Nat)
  | nilp
  | ref (o sz i n : Nat)
  | fn (f : Nat)
  | nilm
  | mp (o : Nat)
  | clo (f : Nat) (caps : List D)
  | nilf
  | anyb
  | hole
  | refc (o sz i n c : Nat)
  | nils
  | yl (o : Nat)
  | lrec (nt : Nat) (env : Tr (Bool × List D)) (ps : List Nat) (assign body : Code) (busy : Bool) (jump : Option Code)
  | wds (t : Tr Nat) (n : Nat)
  | bts (t : Tr Nat) (n : Nat)
structure PObj where
  e : Option Nat
  sz : Nat
  rows : List (List D)
noncomputable def byteB (t : Tr Nat) (i : Nat) : D := .int .u8 (.ofNat (Option.rec (motive := fun _ => Nat) 0 (fun n => n) (t.get i)))
noncomputable def btsRows (t : Tr Nat) (n : Nat) : List (List D) := (List.range n).map fun i => [byteB t i]
noncomputable def PObj.esz : PObj → Nat
  | ⟨_, 0, [[.bts _ _]]⟩ => 1
  | ob => ob.sz
noncomputable def PObj.full : PObj → List (List D)
  | ⟨_, 0, [[.bts t n]]⟩ => btsRows t n
  | ob => ob.rows
noncomputable def PObj.row (i : Nat) : PObj → Option (List D)
  | ⟨_, 0, [[.bts t n]]⟩ => Bool.rec (motive := fun _ => Option (List D)) none (some [byteB t i]) (Nat.blt i n)
  | ob => ob.rows[i]?
noncomputable def PObj.put (i : Nat) (r : List D) : PObj → Option PObj
  | ⟨e, 0, [[.bts t n]]⟩ => match r with
    | [.int .u8 (.ofNat v)] => Bool.rec (motive := fun _ => Option PObj) none (some ⟨e, 0, [[.bts (t.set (some v) 30 i) n]]⟩) (Nat.blt i 1000000000)
    | _ => none
  | ob => some ⟨ob.e, ob.sz, ob.rows.set i r⟩
inductive AD where
  | one (d : D)
  | many (ds : List D)
def AD.cells : AD → List D
  | .one d => [d]
  | .many ds => ds
inductive RV where
  | a (a : AD)
  | tup (l : List AD)
inductive Hp where
  | tr (t : Tr PObj)
  | upd (H : Hp) (o : Nat) (x : Option PObj)
noncomputable def Hp.get : Hp → Nat → Option PObj
  | .tr t, o => t.get o
  | .upd H o x, t => if t = o then x else H.get t
noncomputable instance : CoeFun Hp fun _ => Nat → Option PObj := ⟨Hp.get⟩
def Hp.nil : Hp := .tr .leaf
theorem Hp.nil_at (o : Nat) : Hp.nil o = none := rfl
inductive AV where
  | junk
  | v (a : AD)
  | tup (l : List AD)
  | box (g : Nat) (xs : List D)
  | loc (s g off : Nat)
  | own (g e sz : Nat) (rows : List (List D))
  | oloc (s g i off : Nat)
  | vw (s g : Nat)
  | imm (rows : List (List D)) (i off : Nat)
  | heap (H : Hp) (nx : Nat)
abbrev Env := Nat → AV
def mk : List (Nat × AV) → Env
  | [] => fun _ => .junk
  | (s, v) :: l => fun t => if t = s then v else mk l t
def upd (E : Env) (s : Nat) (v : AV) : Env := fun t => if t = s then v else E t
theorem upd_mk (l : List (Nat × AV)) (s : Nat) (v : AV) : upd (mk l) s v = mk ((s, v) :: l) := rfl
theorem mk_cons (l : List (Nat × AV)) (s t : Nat) (v : AV) : mk ((s, v) :: l) t = if t = s then v else mk l t := rfl
theorem mk_nil (t : Nat) : mk [] t = .junk := rfl
def gs : Nat := 1000000
inductive Q (α : Type) where
  | ret (a : α)
  | fail
  | ask (s : Nat) (k : AV → Q α)
  | set (s : Nat) (v : AV) (k : Q α)
namespace Q
noncomputable def bind {α β : Type} (q : Q α) (f : α → Q β) : Q β :=
  Q.rec (motive := fun _ => Q β) f .fail (fun s _ ih => .ask s ih) (fun s v _ ih => .set s v ih) q
noncomputable instance : Monad Q where
  pure := Q.ret
  bind := Q.bind
def run {α : Type} : Q α → Env → Option (α × Env)
  | .ret a, E => some (a, E)
  | .fail, _ => none
  | .ask s k, E => (k (E s)).run E
  | .set s v k, E => k.run (upd E s v)
def rds {α : Type} : Q α → Env → List Nat
  | .ret _, _ => []
  | .fail, _ => []
  | .ask s k, E => s :: (k (E s)).rds E
  | .set s v k, E => k.rds (upd E s v)
def ups {α : Type} : Q α → Env → List (Nat × AV)
  | .ret _, _ => []
  | .fail, _ => []
  | .ask s k, E => (k (E s)).ups E
  | .set s v k, E => (s, v) :: k.ups (upd E s v)
def wp {α : Type} : Q α → (α → Env → Prop) → Env → Prop
  | .ret a, K, E => K a E
  | .fail, _, _ => False
  | .ask s k, K, E => (k (E s)).wp K E
  | .set s v k, K, E => k.wp K (upd E s v)
def wpT {α : Type} : Q α → (α → Env → List Nat → List Nat → Prop) → Env → List Nat → List Nat → Prop
  | .ret a, K, E, r, u => K a E r u
  | .fail, _, _, _, _ => False
  | .ask s k, K, E, r, u => (k (E s)).wpT K E (s :: r) u
  | .set s v k, K, E, r, u => k.wpT K (upd E s v) r (s :: u)
end Q
inductive TK where
  | sc
  | int (k : IntKind)
  | st (fs : List (Nat × Nat))
  | ar (n esz : Nat) (ag : Bool)
  | sl (e esz eb : Nat) (ez : List D)
  | str
  | mp (kk : Option IntKind) (vz : D)
  | ot
structure TyI where
  size : Nat
  zero : List D
  k : TK
def TK.agg : TK → Bool
  | .st _ | .ar _ _ _ => true
  | _ => false
def D.zv : D → Value
  | .int k n => .int k n
  | .bool b => .bool b
  | .str s => .string s
  | .sl _ => .slice none 0 0
  | .nils => .slice none 0 0
  | .nilp => .pointer none
  | .nilm => .map none
  | .nilf => .nilFunc
  | _ => .tuple #[]
def D.isZ : D → Bool
  | .int _ _ | .bool _ | .str _ | .nilp | .nilm | .nilf | .nils => true
  | .sl rows => rows.isEmpty
  | _ => false
inductive EK where
  | agg (z : List D)
  | bool
  | ptr
  | fn
def allW {α γ : Type} (f : α → γ → Bool) : List α → List γ → Bool
  | [], [] => true
  | x :: l, y :: m => f x y && allW f l m
  | _, _ => false
def kindOk : D → D → Bool
  | .int k _, .int k' _ => decide (k = k')
  | .bool _, .bool _ => true
  | .str _, .str _ => true
  | _, _ => false
def eqK : D → D → Bool
  | .int _ a, .int _ b => a == b
  | .bool a, .bool b => a == b
  | .str a, .str b => a.toList == b.toList
  | _, _ => false
def eqZ : EK → AD → AD → Option Bool
  | .agg z, .many l, .many m => if allW kindOk z l && allW kindOk z m then some (allW eqK l m) else none
  | .bool, .one (.bool a), .one (.bool b) => some (a == b)
  | .ptr, .one .nilp, .one .nilp => some true
  | .ptr, .one (.ptr _ _ _ _), .one .nilp => some false
  | .fn, .one .nilf, .one .nilf => some true
  | .fn, .one (.fn _), .one .nilf => some false
  | .fn, .one (.clo _ _), .one .nilf => some false
  | _, _, _ => none
inductive FnS where
  | none
  | pure (F : List AD → Option RV)
  | eff (F : List AD → Hp → Nat → Option (RV × Hp × Nat))
  | new (F : List AD → Option (Nat × Nat × List (List D)))
  | ext (F : List AD → Hp → Nat → Option RV)
  | rd (F : List AD → Hp → Nat → Option RV)
structure Ctx where
  nt : Nat
  tt : Nat → TyI
  fns : Nat → FnS
  keep : Nat → List Nat
  X : Nat → Prop
  pub : Nat → Bool := fun _ => false
  eqs : Nat → Bool := fun _ => false
  eqz : Nat → Option EK := fun _ => none
  pst : Nat → Bool := fun _ => false
  uni : Bool := false
  dfs : List Deferred := []
  yld : Nat → List AD → Hp → Nat → Option (Bool × Hp × Nat) := fun _ _ _ _ => none
noncomputable def cst : Value → Option D
  | .int k n => some (.int k n)
  | .bool b => some (.bool b)
  | .string s => some (.str s)
  | .slice none 0 0 => some .nils
  | .pointer none => some .nilp
  | .nilFunc => some .nilf
  | _ => none
noncomputable def data (t : Nat) : Q AD :=
  .ask t fun
    | .v a => .ret a
    | .own _ _ _ rows => .set t (.v (.one (.sl rows))) (.ret (.one (.sl rows)))
    | .vw s g => .ask s fun
      | .own g' _ _ rows => if g = g' then .set s (.v (.one (.sl rows))) (.set t (.v (.one (.sl rows))) (.ret (.one (.sl rows)))) else .fail
      | _ => .fail
    | _ => .fail
noncomputable def opd : Operand → Q AD
  | .tmp t => data t
  | .const v => match cst v with
    | some d => .ret (.one d)
    | none => .fail
  | .func f => .ret (.one (.fn f))
  | .global _ => .fail
noncomputable def opds : List Operand → Q (List AD)
  | [] => .ret []
  | x :: l => (opd x).bind fun a => (opds l).bind fun r => .ret (a :: r)
noncomputable def parts : List (Nat × Operand) → Q (List (Nat × List D))
  | [] => .ret []
  | (i, x) :: l => (opd x).bind fun a => (parts l).bind fun r => .ret ((i, a.cells) :: r)
inductive Pl where
  | loc (s g off : Nat)
  | oloc (s g i off : Nat)
  | imm (rows : List (List D)) (i off : Nat)
  | obj (o sz i off : Nat)
noncomputable def addr : Operand → Q Pl
  | .tmp t => .ask t fun
    | .loc s g off => .ask s fun
      | .box g' _ => if g = g' then .ret (.loc s g off) else .fail
      | _ => .fail
    | .box g _ => .ret (.loc t g 0)
    | .oloc s g i off => .ask s fun
      | .own g' _ _ _ => if g = g' then .ret (.oloc s g i off) else .fail
      | _ => .fail
    | .imm rows i off => .ret (.imm rows i off)
    | .v (.one (.ptr o sz i off)) => .ret (.obj o sz i off)
    | _ => .fail
  | _ => .fail
noncomputable def Pl.av : Pl → AV
  | .loc s g off => .loc s g off
  | .oloc s g i off => .oloc s g i off
  | .imm rows i off => .imm rows i off
  | .obj o sz i off => .v (.one (.ptr o sz i off))
noncomputable def Pl.shift (n : Nat) : Pl → Pl
  | .loc s g off => .loc s g (off + n)
  | .oloc s g i off => .oloc s g i (off + n)
  | .imm rows i off => .imm rows i (off + n)
  | .obj o sz i off => .obj o sz i (off + n)
noncomputable def sub (xs : List D) (off n : Nat) : Option (List D) := if off + n ≤ xs.length then some ((xs.drop off).take n) else none
noncomputable def splice (xs : List D) (off : Nat) (vs : List D) : List D := xs.take off ++ vs ++ xs.drop (off + vs.length)
noncomputable def ofOpt {α : Type} : Option α → Q α
  | some a => .ret a
  | none => .fail
noncomputable def rdPl (n : Nat) : Pl → Q (List D)
  | .loc s g off => .ask s fun
    | .box g' xs => if g = g' then ofOpt (sub xs off n) else .fail
    | _ => .fail
  | .oloc s g i off => .ask s fun
    | .own g' _ _ rows => if g = g' then (ofOpt rows[i]?).bind fun r => ofOpt (sub r off n) else .fail
    | _ => .fail
  | .imm rows i off => (ofOpt rows[i]?).bind fun r => ofOpt (sub r off n)
  | .obj o sz i off => .ask gs fun
    | .heap H _ => (ofOpt (H o)).bind fun ob => if ob.esz = sz then (ofOpt (ob.row i)).bind fun r => ofOpt (sub r off n) else .fail
    | _ => .fail
noncomputable def updO (H : Hp) (o : Nat) (x : Option PObj) : Hp :=
  Hp.rec (motive := fun _ => Hp) (fun h => Bool.rec (motive := fun _ => Hp) (.upd (.tr h) o x) (.tr (h.set x 30 o)) (Nat.blt o 1000000000)) (fun H' o' x' _ => .upd (.upd H' o' x') o x) H
theorem updO_at (H : Hp) (o : Nat) (x : Option PObj) (t : Nat) : updO H o x t = if t = o then x else H t := by
  cases H with
  | tr h =>
    unfold updO
    cases hb : Nat.blt o 1000000000 with
    | true =>
      have hlt : o < 1000000000 := Nat.le_of_ble_eq_true hb
      exact Tr.get_set x 30 h o (by omega) t
    | false => rfl
  | upd H' o' x' => rfl
noncomputable def wrPl (vs : List D) : Pl → Q Unit
  | .loc s g off => .ask s fun
    | .box g' xs => if g = g' ∧ off + vs.length ≤ xs.length then .set s (.box g (splice xs off vs)) (.ret ()) else .fail
    | _ => .fail
  | .oloc s g i off => .ask s fun
    | .own g' e sz rows => if g = g' then (ofOpt rows[i]?).bind fun r => if off + vs.length ≤ r.length then .set s (.own g e sz (rows.set i (splice r off vs))) (.ret ()) else .fail else .fail
    | _ => .fail
  | .imm _ _ _ => .fail
  | .obj o sz i off => .ask gs fun
    | .heap H nx => (ofOpt (H o)).bind fun ob => if ob.esz = sz then (ofOpt (ob.row i)).bind fun r =>
        if off + vs.length ≤ r.length then (ofOpt (ob.put i (splice r off vs))).bind fun ob' => .set gs (.heap (updO H o (some ob')) nx) (.ret ()) else .fail else .fail
    | _ => .fail
noncomputable def D.toInt? : D → Option Int
  | .int _ n => some n
  | _ => none
noncomputable def AD.d? : AD → Option D
  | .one d => some d
  | .many _ => none
noncomputable def AD.int? : AD → Option (IntKind × Int)
  | .one (.int k n) => some (k, n)
  | _ => none
noncomputable def AD.bool? : AD → Option Bool
  | .one (.bool b) => some b
  | _ => none
noncomputable def intD (op : BinOp) (k : IntKind) (a b : Int) : Option D :=
  match op with
  | .add => some (.int k (k.wrap (a + b)))
  | .sub => some (.int k (k.wrap (a - b)))
  | .mul => some (.int k (k.wrap (a * b)))
  | .quo => if b = 0 then none else some (.int k (k.wrap (a.tdiv b)))
  | .rem => if b = 0 then none else some (.int k (a.tmod b))
  | .and => some (.int k (bits .and k a b))
  | .or => some (.int k (bits .or k a b))
  | .xor => some (.int k (bits .xor k a b))
  | .andNot => some (.int k (bits .andNot k a b))
  | .eql => some (.bool (a == b))
  | .neq => some (.bool (a != b))
  | .lss => some (.bool (a < b))
  | .leq => some (.bool (a ≤ b))
  | .gtr => some (.bool (a > b))
  | .geq => some (.bool (a ≥ b))
  | _ => none
noncomputable def shD (op : BinOp) (k : IntKind) (a b : Int) : Option D :=
  match op with
  | .shl => if b < 0 then none else some (.int k (k.wrap (a * 2 ^ (min b.toNat k.bits))))
  | .shr => if b < 0 then none else some (.int k (a.fdiv (2 ^ (min b.toNat k.bits))))
  | _ => none
noncomputable def strD (op : BinOp) (a b : ByteArray) : Option D :=
  match op with
  | .eql => some (.bool (a.toList == b.toList))
  | .neq => some (.bool !(a.toList == b.toList))
  | .lss => some (.bool (Op.bytesLess a.toList b.toList))
  | .leq => some (.bool (Op.bytesLess a.toList b.toList || a.toList == b.toList))
  | .gtr => some (.bool !(Op.bytesLess a.toList b.toList || a.toList == b.toList))
  | .geq => some (.bool !(Op.bytesLess a.toList b.toList))
  | _ => none
noncomputable def binD (op : BinOp) (x y : D) : Option D :=
  match x, y with
  | .int k a, .int k' b => match op with
    | .shl | .shr => shD op k a b
    | _ => if k = k' then intD op k a b else none
  | .str a, .str b => strD op a b
  | _, _ => none
noncomputable def unD (op : UnOp) (x : D) : Option D :=
  match op, x with
  | .not, .bool b => some (.bool !b)
  | .neg, .int k n => some (.int k (k.wrap (0 - n)))
  | _, _ => none
noncomputable def fillD (place : Nat → Option (Nat × Nat)) (cells : List D) : List (Nat × List D) → Option (List D)
  | [] => some cells
  | (i, v) :: rest => match place i with
    | none => none
    | some (off, size) => if v.length = size ∧ off + size ≤ cells.length then fillD place (splice cells off v) rest else none
noncomputable def fillRows (esz : Nat) (rows : List (List D)) : List (Nat × List D) → Option (List (List D))
  | [] => some rows
  | (i, v) :: rest => if v.length = esz ∧ i < rows.length then fillRows esz (rows.set i v) rest else none
noncomputable def mvC (C : Ctx) (gen d ty : Nat) (asg : Bool) : Value → Q Unit
  | .slice none 0 0 => match (C.tt ty).k with
    | .sl e esz _ _ => if C.uni = true then .set d (.v (.one .nils)) (.ret ()) else if asg = true ∧ 0 < esz then .set d (.own gen e esz []) (.ret ()) else .set d (.v (.one (.sl []))) (.ret ())
    | _ => .fail
  | v => (ofOpt (cst v)).bind fun x => .set d (.v (.one x)) (.ret ())
noncomputable def mv (C : Ctx) (gen d ty : Nat) (asg : Bool) : Operand → Q Unit
  | .tmp t => .ask t fun
    | .v a => .set d (.v a) (.ret ())
    | .tup l => .set d (.tup l) (.ret ())
    | .loc s g off => .set d (.loc s g off) (.ret ())
    | .oloc s g i off => .set d (.oloc s g i off) (.ret ())
    | .imm rows i off => .set d (.imm rows i off) (.ret ())
    | .box g _ => .set d (.loc t g 0) (.ret ())
    | .own g e sz rows => if asg then .set t .junk (.set d (.own gen e sz rows) (.ret ())) else .set d (.vw t g) (.ret ())
    | .vw s g => if asg then .ask s fun
        | .own g' e sz rows => if g = g' then .set s .junk (.set d (.own gen e sz rows) (.ret ())) else .fail
        | _ => .fail
      else .set d (.vw s g) (.ret ())
    | _ => .fail
  | .const v => mvC C gen d ty asg v
  | .func f => .set d (.v (.one (.fn f))) (.ret ())
  | .global _ => .fail
noncomputable def loadQ (C : Ctx) (d ty : Nat) (x : Operand) : Q Unit :=
  (addr x).bind fun p => (rdPl (C.tt ty).size p).bind fun cs =>
    if (C.tt ty).k.agg then .set d (.v (.many cs)) (.ret ())
    else match cs with
      | [c] => .set d (.v (.one c)) (.ret ())
      | _ => .fail
noncomputable def storeQ (C : Ctx) (ty : Nat) (x y : Operand) : Q Unit :=
  (opd y).bind fun a => (addr x).bind fun p => if a.cells.length = (C.tt ty).size ∧ 0 < (C.tt ty).size then wrPl a.cells p else .fail
noncomputable def fieldAddrQ (C : Ctx) (d ty f : Nat) (x : Operand) : Q Unit :=
  match (C.tt ty).k with
  | .st fs => match fs[f]? with
    | some (off, sz) => if 0 < sz then (addr x).bind fun p => .set d (p.shift off).av (.ret ()) else .fail
    | none => .fail
  | _ => .fail
noncomputable def indexAddrQ (C : Ctx) (d ty : Nat) (x ix : Operand) : Q Unit :=
  (opd ix).bind fun n => (ofOpt n.int?).bind fun n =>
  match (C.tt ty).k with
  | .ar len esz _ => if 0 ≤ n.2 ∧ n.2 < len then (addr x).bind fun p => .set d (p.shift (n.2.toNat * esz)).av (.ret ()) else .fail
  | .sl _ esz _ _ => match x with
    | .tmp t => .ask t fun
      | .own g _ sz rows => if 0 ≤ n.2 ∧ n.2 < rows.length ∧ sz = esz then .set d (.oloc t g n.2.toNat 0) (.ret ()) else .fail
      | .vw s g => .ask s fun
        | .own g' _ sz rows => if g = g' ∧ 0 ≤ n.2 ∧ n.2 < rows.length ∧ sz = esz then .set d (.oloc s g n.2.toNat 0) (.ret ()) else .fail
        | _ => .fail
      | .v (.one (.sl rows)) => if 0 ≤ n.2 ∧ n.2 < rows.length then (ofOpt rows[n.2.toNat]?).bind fun r => if r.length = esz then .set d (.imm rows n.2.toNat 0) (.ret ()) else .fail else .fail
      | .v (.one (.ref o sz i len)) => if 0 ≤ n.2 ∧ n.2 < len ∧ sz = esz then .set d (.v (.one (.ptr o sz (i + n.2.toNat) 0))) (.ret ()) else .fail
      | _ => .fail
    | _ => .fail
  | _ => .fail
noncomputable def lenQ (x : Operand) : Q Nat :=
  match x with
  | .tmp t => .ask t fun
    | .own _ _ _ rows => .ret rows.length
    | .vw s g => .ask s fun
      | .own g' _ _ rows => if g = g' then .ret rows.length else .fail
      | _ => .fail
    | .v (.one (.sl rows)) => .ret rows.length
    | .v (.one (.ref _ _ _ n)) => .ret n
    | .v (.one (.refc _ _ _ n _)) => .ret n
    | .v (.one .nils) => .ret 0
    | _ => .fail
  | _ => .fail
noncomputable def AD.weak : AD → AD
  | .one (.refc o sz i n _) => .one (.ref o sz i n)
  | .one .nils => .one (.sl [])
  | a => a
noncomputable def rowsOf (a : AD) : Q (List (List D)) :=
  match a.weak with
  | .one (.sl rows) => .ret rows
  | .one (.ref o sz i n) => .ask gs fun
    | .heap H _ => (ofOpt (H o)).bind fun ob => if ob.sz = sz ∧ i + n ≤ ob.rows.length then .ret ((ob.rows.drop i).take n) else .fail
    | _ => .fail
  | _ => .fail
noncomputable def appendQ (C : Ctx) (gen d ty : Nat) (x y : Operand) : Q Unit :=
  (opd y).bind fun b => (rowsOf b).bind fun ys =>
  match (C.tt ty).k with
  | .sl e esz eb _ =>
    if ys.all (fun r => r.length = esz) ∧ 0 < esz then
    match x with
    | .tmp t => .ask t fun
      | .own _ e' sz rows => if e' = e ∧ sz = esz ∧ (rows.length + ys.length) * (eb + 1) ≤ 140737488355328 then .set t .junk (.set d (.own gen e sz (rows ++ ys)) (.ret ())) else .fail
      | .vw s g => .ask s fun
        | .own g' e' sz rows => if g = g' ∧ e' = e ∧ sz = esz ∧ (rows.length + ys.length) * (eb + 1) ≤ 140737488355328 then .set s .junk (.set d (.own gen e sz (rows ++ ys)) (.ret ())) else .fail
        | _ => .fail
      | _ => .fail
    | .const (.slice none 0 0) => if ys.length * (eb + 1) ≤ 140737488355328 then .set d (.own gen e esz ys) (.ret ()) else .fail
    | _ => .fail
    else .fail
  | _ => .fail
noncomputable def optInt : Option Operand → Q (Option Int)
  | none => .ret none
  | some x => (opd x).bind fun a => (ofOpt a.int?).bind fun n => .ret (some n.2)
noncomputable def slRows (rows : List (List D)) (esz : Nat) (l h : Int) : Option (List (List D)) :=
  if 0 ≤ l ∧ l ≤ h ∧ h ≤ rows.length ∧ rows.all (fun r => r.length = esz) = true then some ((rows.drop l.toNat).take (h.toNat - l.toNat)) else none
noncomputable def slStr (s : ByteArray) (l h : Int) : Option ByteArray := if 0 ≤ l ∧ l ≤ h ∧ h ≤ s.size then some (s.extract l.toNat h.toNat) else none
noncomputable def sliceQ (C : Ctx) (d ty : Nat) (x : Operand) (lo hi : Option Operand) : Q Unit :=
  (opd x).bind fun a => (optInt lo).bind fun l => (optInt hi).bind fun h =>
  match (C.tt ty).k, a with
  | .sl _ esz _ _, .one (.sl rows) => (ofOpt (slRows rows esz (l.getD 0) (h.getD rows.length))).bind fun r => .set d (.v (.one (.sl r))) (.ret ())
  | .str, .one (.str s) => (ofOpt (slStr s (l.getD 0) (h.getD s.size))).bind fun r => .set d (.v (.one (.str r))) (.ret ())
  | .sl _ esz _ _, .one (.ref o sz i n) => if sz = esz ∧ 0 ≤ l.getD 0 ∧ (l.getD 0 < h.getD n ∨ C.uni = true ∧ l.getD 0 ≤ h.getD n) ∧ h.getD n ≤ n then
      (if l.getD 0 < h.getD n ∨ l.getD 0 = 0 then .set d (.v (.one (.ref o sz (i + (l.getD 0).toNat) ((h.getD n).toNat - (l.getD 0).toNat)))) (.ret ()) else .set d (.v (.one (.sl []))) (.ret ())) else .fail
  | .sl _ _ _ _, .one .nils => if 0 ≤ l.getD 0 ∧ l.getD 0 ≤ h.getD 0 ∧ h.getD 0 ≤ 0 then .set d (.v (.one .nils)) (.ret ()) else .fail
  | .sl _ esz _ _, .one (.refc o sz i n c) => if sz = esz ∧ 0 ≤ l.getD 0 ∧ l.getD 0 ≤ h.getD n ∧ h.getD n ≤ c then
      (if l.getD 0 = c then .set d (.v (.one (.sl []))) (.ret ()) else .set d (.v (.one (.refc o sz (i + (l.getD 0).toNat) ((h.getD n).toNat - (l.getD 0).toNat) (c - (l.getD 0).toNat)))) (.ret ())) else .fail
  | _, _ => .fail
noncomputable def setRV (d : Nat) : RV → Q Unit
  | .a a => .set d (.v a) (.ret ())
  | .tup l => .set d (.tup l) (.ret ())
noncomputable def enterQ (C : Ctx) (d f : Nat) (ads : List AD) : Q Unit :=
  match C.fns f with
  | .none => .fail
  | .pure F => (ofOpt (F ads)).bind fun r => setRV d r
  | .eff F => .ask gs fun
    | .heap H nx => (ofOpt (F ads H nx)).bind fun r => .set gs (.heap r.2.1 r.2.2) (setRV d r.1)
    | _ => .fail
  | .new _ => .fail
  | .ext _ => .fail
  | .rd F => .ask gs fun
    | .heap H nx => (ofOpt (F ads H nx)).bind fun r => setRV d r
    | _ => .fail
noncomputable def callQ (C : Ctx) (gen d f : Nat) (args : List Operand) : Q Unit := (opds args).bind fun ads => match C.fns f with
  | .new F => (ofOpt (F ads)).bind fun r => .set d (.own gen r.1 r.2.1 r.2.2) (.ret ())
  | .ext F => .ask gs fun
    | .heap H nx => (ofOpt (F ads H nx)).bind fun r => setRV d r
    | _ => .fail
  | _ => enterQ C d f ads
noncomputable def maxD : D → D → Option D
  | .int k a, .int _ b => some (.int k (if b > a then b else a))
  | _, _ => none
noncomputable def minD : D → D → Option D
  | .int k a, .int _ b => some (.int k (if b < a then b else a))
  | _, _ => none
noncomputable def mmQ (d : Nat) (f : D → D → Option D) : List Operand → Q Unit
  | [x, y] => (opd x).bind fun a => (opd y).bind fun b => (ofOpt a.d?).bind fun a => (ofOpt b.d?).bind fun b => (ofOpt (f a b)).bind fun r => .set d (.v (.one r)) (.ret ())
  | _ => .fail
noncomputable def extractQ (d ix : Nat) : Operand → Q Unit
  | .tmp t => .ask t fun
    | .tup l => (ofOpt l[ix]?).bind fun a => .set d (.v a) (.ret ())
    | _ => .fail
  | _ => .fail
noncomputable def dstQ (o : Oper) (k : Nat → Q Unit) (C : Ctx) : Q Unit :=
  match o.dst with
  | some d => if d < C.nt then k d else .fail
  | none => .fail
noncomputable def semOp0 (C : Ctx) (i : Nat) (o : Oper) : Q Unit :=
  match o.op with
  | .move x => dstQ o (fun d => mv C (i + 1) d o.type false x) C
  | .assign x => dstQ o (fun d => mv C (i + 1) d o.type true x) C
  | .pick c x y => dstQ o (fun d => (opd c).bind fun c => (ofOpt c.bool?).bind fun b => (opd (if b then x else y)).bind fun a => .set d (.v a) (.ret ())) C
  | .alloc t => dstQ o (fun d => if (C.tt t).zero = [] then .fail else .set d (.box (i + 1) (C.tt t).zero) (.ret ())) C
  | .box _ x => dstQ o (fun d => (opd x).bind fun a => if a.cells = [] then .fail else .set d (.box (i + 1) a.cells) (.ret ())) C
  | .build t ps => dstQ o (fun d => (parts ps.toList).bind fun ps => match (C.tt t).k with
      | .st fs => (ofOpt (fillD (fun j => fs[j]?) (C.tt t).zero ps)).bind fun cs => .set d (.v (.many cs)) (.ret ())
      | .ar _ esz _ => (ofOpt (fillD (fun j => some (j * esz, esz)) (C.tt t).zero ps)).bind fun cs => .set d (.v (.many cs)) (.ret ())
      | _ => .fail) C
  | .buildSlice t n ps => dstQ o (fun d => (parts ps.toList).bind fun ps => match (C.tt t).k with
      | .sl e esz _ ez => if 0 < esz ∧ n * esz ≤ 16777216 ∧ ez.length = esz then (ofOpt (fillRows esz (List.replicate n ez) ps)).bind fun rows => .set d (.own (i + 1) e esz rows) (.ret ()) else .fail
      | _ => .fail) C
  | .load t x => dstQ o (fun d => loadQ C d t x) C
  | .store t x y => if o.dst.isNone then storeQ C t x y else .fail
  | .nilCheck x => dstQ o (fun d => (addr x).bind fun p => .set d p.av (.ret ())) C
  | .binOp op _ x y _ => dstQ o (fun d => (opd x).bind fun a => (opd y).bind fun b => (ofOpt a.d?).bind fun a => (ofOpt b.d?).bind fun b => (ofOpt (binD op a b)).bind fun r => .set d (.v (.one r)) (.ret ())) C
  | .unOp op _ x => dstQ o (fun d => (opd x).bind fun a => (ofOpt a.d?).bind fun a => (ofOpt (unD op a)).bind fun r => .set d (.v (.one r)) (.ret ())) C
  | .convert s t x => dstQ o (fun d => (opd x).bind fun a => (ofOpt a.int?).bind fun n => match (C.tt s).k, (C.tt t).k with
      | .int _, .int k => .set d (.v (.one (.int k (k.wrap n.2)))) (.ret ())
      | _, _ => .fail) C
  | .fieldAddr t x f => dstQ o (fun d => fieldAddrQ C d t f x) C
  | .indexAddr t x ix => dstQ o (fun d => indexAddrQ C d t x ix) C
  | .extract x ix => dstQ o (fun d => extractQ d ix x) C
  | .slice t x lo hi mx => if mx.isNone then dstQ o (fun d => sliceQ C d t x lo hi) C else .fail
  | .makeSlice t l c => dstQ o (fun d => (opd l).bind fun l => (opd c).bind fun c => (ofOpt l.int?).bind fun l => (ofOpt c.int?).bind fun c => match (C.tt t).k with
      | .sl e esz eb ez => if 0 < esz ∧ ez.length = esz ∧ l.2 = c.2 ∧ 0 ≤ l.2 ∧ l.2.toNat * (eb + 1) ≤ 140737488355328 then .set d (.own (i + 1) e esz (List.replicate l.2.toNat ez)) (.ret ()) else .fail
      | _ => .fail) C
  | .call c => match c.callee with
    | .builtin .len => dstQ o (fun d => match c.args.toList, c.argTypes.toList with
        | [x], [t] => (match (C.tt t).k with
          | .sl .. => (lenQ x).bind fun n => .set d (.v (.one (.int .i64 n))) (.ret ())
          | .str => (opd x).bind fun a => (match a with | .one (.str s) => .set d (.v (.one (.int .i64 s.size))) (.ret ()) | _ => .fail)
          | _ => .fail)
        | _, _ => .fail) C
    | .builtin .append => dstQ o (fun d => match c.args.toList, c.argTypes.toList with
        | [x, y], [t, t'] => if t = t' then appendQ C (i + 1) d t x y else .fail
        | _, _ => .fail) C
    | .builtin .max => dstQ o (fun d => mmQ d maxD c.args.toList) C
    | .builtin .min => dstQ o (fun d => mmQ d minD c.args.toList) C
    | .value (.func f) => dstQ o (fun d => callQ C (i + 1) d f c.args.toList) C
    | _ => .fail
  | _ => .fail
noncomputable def pubQ (d : Nat) : Q Unit :=
  .ask d fun
    | .own _ e sz rows => if rows = [] then .ret () else .ask gs fun
      | .heap H nx => .set gs (.heap (updO H nx (some ⟨some e, sz, rows⟩)) (nx + 1)) (.set d (.v (.one (.ref nx sz 0 rows.length))) (.ret ()))
      | _ => .fail
    | .vw s g => .ask s fun
      | .own g' e sz rows => if rows = [] then .ret () else if g = g' then .ask gs fun
        | .heap H nx => .set gs (.heap (updO H nx (some ⟨some e, sz, rows⟩)) (nx + 1)) (.set s (.v (.one (.ref nx sz 0 rows.length))) (.set d (.v (.one (.ref nx sz 0 rows.length))) (.ret ())))
        | _ => .fail
        else .fail
      | _ => .ret ()
    | .box _ xs => .ask gs fun
      | .heap H nx => .set gs (.heap (updO H nx (some ⟨none, xs.length, [xs]⟩)) (nx + 1)) (.set d (.v (.one (.ptr nx xs.length 0 0))) (.ret ()))
      | _ => .fail
    | _ => .ret ()
noncomputable def appendRefQ (C : Ctx) (d ty : Nat) (x y : Operand) : Q Unit :=
  (opd y).bind fun b => (rowsOf b).bind fun ys =>
  match (C.tt ty).k with
  | .sl e esz eb _ =>
    if ys.all (fun r => r.length = esz) ∧ 0 < esz then
    (opd x).bind fun a => match a with
    | .one (.ref o sz i n) => if ys.length = 0 then .set d (.v (.one (.ref o sz i n))) (.ret ()) else .ask gs fun
      | .heap H nx => (ofOpt (H o)).bind fun ob =>
        if ob.e = some e ∧ ob.sz = esz ∧ sz = esz ∧ i = 0 ∧ n = ob.rows.length ∧ 0 < n + ys.length ∧ (n + ys.length) * (eb + 1) ≤ 140737488355328 then
          .set gs (.heap (updO (updO H o none) nx (some ⟨some e, esz, ob.rows ++ ys⟩)) (nx + 1)) (.set d (.v (.one (.ref nx esz 0 (n + ys.length)))) (.ret ()))
        else .fail
      | _ => .fail
    | _ => .fail
    else .fail
  | _ => .fail
noncomputable def appendNilQ (C : Ctx) (gen d ty : Nat) (y : Operand) : Q Unit :=
  (opd y).bind fun b => (rowsOf b).bind fun ys =>
  match (C.tt ty).k with
  | .sl e esz eb _ =>
    if ys.all (fun r => r.length = esz) ∧ 0 < esz then
      if 0 < ys.length ∧ ys.length * (eb + 1) ≤ 140737488355328 then .set d (.own gen e esz ys) (.ret ()) else if ys.length = 0 then .set d (.v (.one .nils)) (.ret ()) else .fail
    else .fail
  | _ => .fail
noncomputable def trimQ (x o n : Nat) (sz : Nat) : Q Unit := .ask gs fun
  | .heap H nx => (ofOpt (H o)).bind fun ob => if ob.sz = sz ∧ n ≤ ob.rows.length then .set gs (.heap (updO H o (some ⟨ob.e, ob.sz, ob.rows.take n⟩)) nx) (.set x (.v (.one (.ref o sz 0 n))) (.ret ())) else .fail
  | _ => .fail
noncomputable def appendZQ (C : Ctx) (d ty : Nat) (o sz i n c : Nat) (y : Operand) : Q Unit :=
  (opd y).bind fun b => (ofOpt b.int?).bind fun k =>
  match (C.tt ty).k with
  | .sl e esz eb ez => .ask gs fun
    | .heap H nx => (ofOpt (H o)).bind fun ob =>
      if ob.sz = esz ∧ sz = esz ∧ 0 < esz ∧ i = 0 ∧ n ≤ ob.rows.length ∧ ez.length = esz ∧ 0 < k.2 ∧ (c : Int) < n + k.2 ∧ (n + k.2) * (eb + 1) ≤ 70368744177664 then
        .set gs (.heap (updO H nx (some ⟨some e, esz, ob.rows.take n ++ List.replicate k.2.toNat ez⟩)) (nx + 1)) (.set d (.v (.one (.ref nx esz 0 (n + k.2.toNat)))) (.ret ()))
      else .fail
    | _ => .fail
  | _ => .fail
noncomputable def overRows (rows ys : List (List D)) (i : Nat) : List (List D) := rows.take i ++ ys ++ rows.drop (i + ys.length)
noncomputable def copyQ (C : Ctx) (d ty : Nat) (x y : Operand) : Q Unit :=
  (opd y).bind fun b => (rowsOf b).bind fun ys =>
  match (C.tt ty).k with
  | .sl _ esz _ _ =>
    if ys.all (fun r => r.length = esz) ∧ 0 < esz then
    (opd x).bind fun a => match a.weak with
    | .one (.sl []) => .set d (.v (.one (.int .i64 0))) (.ret ())
    | .one (.ref o sz i n) => .ask gs fun
      | .heap H nx => (ofOpt (H o)).bind fun ob =>
        if ob.sz = esz ∧ sz = esz ∧ i + n ≤ ob.rows.length then
          .set gs (.heap (updO H o (some ⟨ob.e, ob.sz, overRows ob.rows (ys.take n) i⟩)) nx) (.set d (.v (.one (.int .i64 (min ys.length n : Nat)))) (.ret ()))
        else .fail
      | _ => .fail
    | _ => .fail
    else .fail
  | _ => .fail
noncomputable def eqD : D → D → Option Bool
  | .int k a, .int k' b => if k = k' then some (a == b) else none
  | .bool a, .bool b => some (a == b)
  | .ptr _ _ _ _, .nilp => some false
  | .nilp, .nilp => some true
  | _, _ => none
noncomputable def eqCells : List D → List D → Option Bool
  | [], [] => some true
  | x :: l, y :: m => (eqD x y).bind fun b => (eqCells l m).map fun r => b && r
  | _, _ => none
noncomputable def eqAD : AD → AD → Option Bool
  | .one x, .one y => eqD x y
  | .many l, .many m => eqCells l m
  | _, _ => none
noncomputable def D.isP : D → Bool
  | .ptr _ _ _ _ | .nilp => true
  | _ => false
noncomputable def D.isI : D → Bool
  | .int _ _ => true
  | _ => false
noncomputable def D.isB : D → Bool
  | .bool _ => true
  | _ => false
noncomputable def TyI.eqn (ti : TyI) : Nat := match ti.zero with
  | [.bool _] => 0
  | _ => ti.size
noncomputable def fitEq (n : Nat) : AD → AD → Bool
  | .one a, .one b => decide (n = 1) && (a.isP && b.isP) || decide (n = 0) && (a.isB && b.isB)
  | .many l, .many m => decide (2 ≤ n) && (decide (l.length = n) && (decide (m.length = n) && (l.all D.isI && m.all D.isI)))
  | _, _ => false
noncomputable def eqQ (n : Nat) (d : Nat) (op : BinOp) (x y : Operand) : Q Unit :=
  (opd x).bind fun a => (opd y).bind fun b => (ofOpt (if fitEq n a b = true then eqAD a b else none)).bind fun r => match op with
    | .eql => .set d (.v (.one (.bool r))) (.ret ())
    | .neq => .set d (.v (.one (.bool !r))) (.ret ())
    | _ => .fail
noncomputable def eqZQ (k : Option EK) (d : Nat) (op : BinOp) (x y : Operand) : Q Unit :=
  (opd x).bind fun a => (opd y).bind fun b => (ofOpt (k.bind fun k => eqZ k a b)).bind fun r => match op with
    | .eql => .set d (.v (.one (.bool r))) (.ret ())
    | .neq => .set d (.v (.one (.bool !r))) (.ret ())
    | _ => .fail
noncomputable def callVQ (C : Ctx) (d : Nat) (t : Nat) (args : List Operand) : Q Unit :=
  (data t).bind fun fv => (opds args).bind fun ads => match fv with
  | .one (.fn f) => enterQ C d f ads
  | .one (.clo f caps) => enterQ C d f (ads ++ caps.map .one)
  | _ => .fail
noncomputable def ones : List AD → Option (List D)
  | [] => some []
  | .one d :: l => (ones l).map fun r => d :: r
  | _ => none
noncomputable def keyEq : D → D → Option Bool
  | .int k a, .int k' b => if k = k' then some (a == b) else none
  | .str a, .str b => some (a == b)
  | _, _ => none
noncomputable def mapFind (k : D) : List (List D) → Nat → Option (Option (Nat × D))
  | [], _ => some none
  | [k', v] :: l, i => match keyEq k k' with
    | some true => some (some (i, v))
    | some false => mapFind k l (i + 1)
    | none => none
  | _ :: _, _ => none
noncomputable def notLoop : List (List D) → Bool
  | [[.lrec _ _ _ _ _ _ _]] => false
  | [[.wds _ _]] => false
  | [[.bts _ _]] => false
  | _ => true
noncomputable def byteOf (t : Tr Nat) (i : Nat) : D := .int .u8 (((t.get (i / 8)).getD 0 / 256 ^ (i % 8) % 256 : Nat) : Int)
noncomputable def wdsRows (t : Tr Nat) (n : Nat) : List (List D) := (List.range n).map fun i => [byteOf t i]
noncomputable def mapRows (o : Nat) : Q (Hp × Nat × List (List D)) :=
  .ask gs fun
    | .heap H nx => (ofOpt (H o)).bind fun ob => if ob.sz = 0 ∧ notLoop ob.rows = true then .ret (H, nx, ob.rows) else .fail
    | _ => .fail
noncomputable def keyOk : Option IntKind → D → Bool
  | some k, .int k' _ => k == k'
  | none, .str _ => true
  | _, _ => false
noncomputable def lookupQ (C : Ctx) (d t : Nat) (x ix : Operand) (ok : Bool) : Q Unit :=
  (opd x).bind fun m => (opd ix).bind fun k => match (C.tt t).k, m, k with
  | .mp kk vz, .one (.mp o), .one k => if keyOk kk k = true then (mapRows o).bind fun r => (ofOpt (mapFind k r.2.2 0)).bind fun f => match f with
    | some (_, v) => setRV d (if ok then .tup [.one v, .one (.bool true)] else .a (.one v))
    | none => setRV d (if ok then .tup [.one vz, .one (.bool false)] else .a (.one vz))
    else .fail
  | _, _, _ => .fail
noncomputable def updateQ (C : Ctx) (t : Nat) (x ix y : Operand) : Q Unit :=
  (opd x).bind fun m => (opd ix).bind fun k => (opd y).bind fun v => match (C.tt t).k, m, k, v with
  | .mp kk _, .one (.mp o), .one k, .one v => if keyOk kk k = true then (mapRows o).bind fun r => (ofOpt (mapFind k r.2.2 0)).bind fun f =>
      .set gs (.heap (updO r.1 o (some ⟨none, 0, match f with
        | some (i, _) => r.2.2.set i [k, v]
        | none => r.2.2 ++ [[k, v]]⟩)) r.2.1) (.ret ())
    else .fail
  | _, _, _, _ => .fail
noncomputable def deleteQ (C : Ctx) (t : Nat) (x ix : Operand) : Q Unit :=
  (opd x).bind fun m => (opd ix).bind fun k => match (C.tt t).k, m, k with
  | .mp kk _, .one (.mp o), .one k => if keyOk kk k = true then (mapRows o).bind fun r => (ofOpt (mapFind k r.2.2 0)).bind fun f =>
      .set gs (.heap (updO r.1 o (some ⟨none, 0, match f with
        | some (i, _) => r.2.2.eraseIdx i
        | none => r.2.2⟩)) r.2.1) (.ret ())
    else .fail
  | _, _, _ => .fail
noncomputable def bytesD (s : ByteArray) : List (List D) := s.data.toList.map fun b => [.int .u8 b.toNat]
noncomputable def TK.isStr : TK → Bool
  | .str => true
  | _ => false
noncomputable def bytesQ (C : Ctx) (d t : Nat) (x : Operand) : Q Unit :=
  (opd x).bind fun a => match (C.tt t).k, a with
  | .sl e _ _ _, .one (.str s) => match (C.tt e).k with
    | .int .u8 => .set d (.v (.one (.sl (bytesD s)))) (.ret ())
    | _ => .fail
  | _, _ => .fail
noncomputable def numsD : List (List D) → Option (List Int)
  | [] => some []
  | [.int .u8 n] :: l => (numsD l).map fun r => n :: r
  | _ :: _ => none
noncomputable def strQ (C : Ctx) (d s : Nat) (x : Operand) : Q Unit :=
  (opd x).bind fun a => (rowsOf a).bind fun ys => match (C.tt s).k with
  | .sl e esz _ _ => match (C.tt e).k with
    | .int .u8 => if esz = 1 then (ofOpt (numsD ys)).bind fun xs => .set d (.v (.one (.str (strOfNums xs)))) (.ret ()) else .fail
    | _ => .fail
  | _ => .fail
noncomputable def strAtQ (C : Ctx) (d t : Nat) (x ix : Operand) : Q Unit :=
  (opd x).bind fun a => (opd ix).bind fun n => (ofOpt n.int?).bind fun n => match (C.tt t).k, a with
  | .ar m esz ag, .many cs => if 0 ≤ n.2 ∧ n.2.toNat < m then (ofOpt (sub cs (n.2.toNat * esz) esz)).bind fun r => (match ag, r with
    | true, r => .set d (.v (.many r)) (.ret ())
    | false, [x] => .set d (.v (.one x)) (.ret ())
    | _, _ => .fail) else .fail
  | .str, .one (.str s) => if 0 ≤ n.2 then (ofOpt s.data.toList[n.2.toNat]?).bind fun b => .set d (.v (.one (.int .u8 b.toNat))) (.ret ()) else .fail
  | _, _ => .fail
noncomputable def TK.isSl : TK → Bool
  | .sl .. => true
  | _ => false
noncomputable def TK.isInt : TK → Bool
  | .int _ => true
  | _ => false
noncomputable def isNilC : Operand → Bool
  | .const (.slice none 0 0) => true
  | _ => false
noncomputable def eqNe : BinOp → Option Bool
  | .eql => some false
  | .neq => some true
  | _ => none
noncomputable def nilQ (d : Nat) (op : BinOp) (x : Operand) : Q Unit :=
  (ofOpt (eqNe op)).bind fun r => (opd x).bind fun a => match a with
  | .one .nils => .set d (.v (.one (.bool !r))) (.ret ())
  | .one (.sl []) => .set d (.v (.one .anyb)) (.ret ())
  | .one (.sl (_ :: _)) => .set d (.v (.one (.bool r))) (.ret ())
  | .one (.ref _ _ _ _) => .set d (.v (.one (.bool r))) (.ret ())
  | _ => .fail
noncomputable def capQ (d : Nat) (x : Operand) : Q Unit := (opd x).bind fun a => match a with
  | .one (.refc _ _ _ _ c) => .set d (.v (.one (.int .i64 c))) (.ret ())
  | .one .nils => .set d (.v (.one (.int .i64 0))) (.ret ())
  | _ => .fail
noncomputable def clearQ (x : Operand) : Q Unit := (opd x).bind fun a => match a with
  | .one (.sl []) => .ret ()
  | .one .nils => .ret ()
  | .one (.refc _ _ _ 0 _) => .ret ()
  | _ => .fail
noncomputable def semOp1 (C : Ctx) (i : Nat) (o : Oper) : Q Unit :=
  match o.op with
  | .convert s t x => if (C.tt s).k.isStr = true then dstQ o (fun d => bytesQ C d t x) C else if (C.tt t).k.isStr = true then dstQ o (fun d => strQ C d s x) C else semOp0 C i o
  | .index t x ix => dstQ o (fun d => strAtQ C d t x ix) C
  | .binOp op t x y _ => if (C.eqz t).isSome = true then dstQ o (fun d => eqZQ (C.eqz t) d op x y) C else if C.eqs t = true then dstQ o (fun d => eqQ (C.tt t).eqn d op x y) C else if ((C.tt t).k.isSl && isNilC y) = true then dstQ o (fun d => nilQ d op x) C else semOp0 C i o
  | .call c => match c.callee with
    | .builtin .copy => dstQ o (fun d => match c.args.toList, c.argTypes.toList with
        | [x, y], [t, t'] => if t = t' then copyQ C d t x y else .fail
        | _, _ => .fail) C
    | .builtin .len => dstQ o (fun d => match c.args.toList, c.argTypes.toList with
        | [x], [t] => (match (C.tt t).k with
          | .mp _ _ => (opd x).bind fun m => (match m with | .one (.mp o) => (mapRows o).bind fun r => .set d (.v (.one (.int .i64 r.2.2.length))) (.ret ()) | _ => .fail)
          | _ => semOp0 C i o)
        | _, _ => .fail) C
    | .builtin .cap => dstQ o (fun d => match c.args.toList, c.argTypes.toList with
        | [x], [t] => if (C.tt t).k.isSl = true then capQ d x else .fail
        | _, _ => .fail) C
    | .builtin .clear => if o.dst.isNone then (match c.args.toList, c.argTypes.toList with
        | [x], [t] => if (C.tt t).k.isSl = true then clearQ x else .fail
        | _, _ => .fail) else .fail
    | .builtin .delete => if o.dst.isNone then match c.args.toList, c.argTypes.toList with
        | [x, y], [t, _] => deleteQ C t x y
        | _, _ => .fail
        else .fail
    | .builtin .append => dstQ o (fun d => match c.args.toList, c.argTypes.toList with
        | [.tmp x, y], [t, t'] => .ask x fun
          | .v (.one (.ref _ _ _ _)) => if t = t' then appendRefQ C d t (.tmp x) y else .fail
          | .v (.one .nils) => if t = t' then appendNilQ C (i + 1) d t y else .fail
          | .v (.one (.refc ob sz ix n c)) => if t = t' then (if ix = 0 ∧ x < C.nt then (trimQ x ob n sz).bind fun _ => appendRefQ C d t (.tmp x) y else .fail) else (if (C.tt t').k.isInt = true then appendZQ C d t ob sz ix n c y else .fail)
          | _ => semOp0 C i o
        | _, _ => semOp0 C i o) C
    | .value (.tmp t) => dstQ o (fun d => callVQ C d t c.args.toList) C
    | _ => semOp0 C i o
  | .makeFunc (.func f) fs caps => dstQ o (fun d => if fs.size = 0 then (opds caps.toList).bind fun ads => (ofOpt (ones ads)).bind fun ds => .set d (.v (.one (.clo f ds))) (.ret ()) else .fail) C
  | .makeMap t r => if r.isNone then dstQ o (fun d => match (C.tt t).k with
      | .mp _ _ => .ask gs fun
        | .heap H nx => .set gs (.heap (updO H nx (some ⟨none, 0, []⟩)) (nx + 1)) (.set d (.v (.one (.mp nx))) (.ret ()))
        | _ => .fail
      | _ => .fail) C else .fail
  | .lookup t x ix ok => dstQ o (fun d => lookupQ C d t x ix ok) C
  | .mapUpdate t x ix y => if o.dst.isNone then updateQ C t x ix y else .fail
  | .insert t x ix y => if o.dst.isNone then updateQ C t x ix y else .fail
  | _ => semOp0 C i o
noncomputable def preQ (C : Ctx) : Op → Q Unit
  | .store _ _ (.tmp y) => if C.pst y = true ∧ y < C.nt then pubQ y else .ret ()
  | _ => .ret ()
noncomputable def uniQ (d : Nat) : Q Unit := .ask d fun
  | .own _ _ _ [] => .set d (.v (.one (.sl []))) (.ret ())
  | _ => .ret ()
noncomputable def semOp (C : Ctx) (i : Nat) (o : Oper) : Q Unit :=
  (preQ C o.op).bind fun _ => (semOp1 C i o).bind fun _ => match o.dst with
  | some d => if C.pub d = true ∧ d < C.nt then (pubQ d).bind fun _ => if C.uni = true then uniQ d else .ret () else .ret ()
  | none => .ret ()
end Go.Proofs.YtmhinddneefmbaaGreat.Pe
