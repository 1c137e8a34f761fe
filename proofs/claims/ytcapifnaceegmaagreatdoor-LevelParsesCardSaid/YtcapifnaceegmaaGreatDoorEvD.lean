/- The evaluator: one operation. -/
import Derived.Test.YtcapifnaceegmaaGreatDoorEvC
namespace Go.Proofs.YtcapifnaceegmaaGreatDoor
open Go.RowKit
set_option linter.unusedSimpArgs false
set_option linter.unusedVariables false
set_option linter.unusedSectionVars false

structure Cfg extends Tables where
  keep : List Nat
  oslT : List Nat
  rounds : Nat

structure Rec where
  call : FuncId → List AV → Mem → Option (TV × Mem)
  exec : Option Nat → Code → St → Option (Exit × St)

structure RecOK (P : Program) (r : Rec) : Prop where
  call : ∀ {f args m res m'}, r.call f args m = some (res, m') → CallM P f args m res m'
  exec : ∀ {rn c st e st'}, r.exec rn c st = some (e, st') → ExecOK P rn c st e st'

def rd (v : Option TV) : Option (TV × Option Mem) := match v with
  | some x => some (x, none)
  | none => none

def aSl (sz : Nat) : CA → Option (List (List C))
  | .d (.sl sz' es) => cond (Nat.beq sz' sz) (some es) none
  | .app _ sz' es => cond (Nat.beq sz' sz) (some es) none
  | .d (.v (.slice none 0 0)) => some []
  | _ => none

theorem aSl_ok {sz : Nat} {y : CA} {es : List (List C)} (h : aSl sz y = some es) : SlOf y sz es := by
  unfold aSl at h
  split at h
  · rename_i sz' es'
    cases hb : Nat.beq sz' sz with
    | false => rw [hb] at h; cases h
    | true => rw [hb] at h; cases h; rw [Nat.eq_of_beq_eq_true hb]; exact .d _ _
  · rename_i i sz' es'
    cases hb : Nat.beq sz' sz with
    | false => rw [hb] at h; cases h
    | true => rw [hb] at h; cases h; rw [Nat.eq_of_beq_eq_true hb]; exact .app _ _ _
  · cases h; exact .nil _
  · cases h

section
variable (T : Cfg) (st : St)

def aBin (op : BinOp) (t : TypeId) (x y : Operand) : Option TV :=
  match ev st.tm x, ev st.tm y with
  | some (.v (.one (.d (.v (.int k a))))), some (.v (.one (.d (.v (.int k' b))))) => match intBin op k a k' b with
    | some v => some (TVv v)
    | none => none
  | some (.v (.one (.d (.v (.string a))))), some (.v (.one (.d (.v (.string b))))) => match strBin op a b with
    | some v => some (TVv v)
    | none => none
  | some (.v (.one (.d (.v (.bool a))))), some (.v (.one (.d (.v (.bool b))))) => match lk T.bools t, op with
    | some _, .eql => some (TB (a == b))
    | some _, .neq => some (TB (!(a == b)))
    | _, _ => none
  | some (.v (.agg [.d (.v (.int .i64 a0)), .d (.v (.int .i64 a1))])), some (.v (.agg [.d (.v (.int .i64 b0)), .d (.v (.int .i64 b1))])) => match lk T.pairs t, op with
    | some _, .eql => some (TB ((a0 == b0) && (a1 == b1)))
    | some _, .neq => some (TB (!((a0 == b0) && (a1 == b1))))
    | _, _ => none
  | _, _ => none

def aUn (op : UnOp) (x : Operand) : Option TV :=
  match op, ev st.tm x with
  | .not, some (.v (.one (.d (.v (.bool b))))) => some (TB (!b))
  | .neg, some (.v (.one (.d (.v (.int k m))))) => some (TVv (.int k (k.wrap (0 - m))))
  | _, _ => none

def aField (s : TypeId) (x : Operand) (f : Nat) : Option TV :=
  match lk T.fld s with
  | none => none
  | some fs => match lk fs f with
    | none => none
    | some k => match ev st.tm x with
      | some (.v (.one (.ptr i off))) => some (.v (.one (.ptr i (off + k))))
      | some (.v (.one (.pel e off))) => some (.v (.one (.pel e (off + k))))
      | _ => none

def aLoad (t : TypeId) (x : Operand) : Option TV :=
  match lk T.agg t with
  | none => none
  | some (ag, n) => match ev st.tm x with
    | some (.v (.one (.ptr i off))) => match lk st.hp i with
      | some (.cells _ xs) => match ag with
        | false => match xs[off]? with
          | some y => some (.v (.one y))
          | none => none
        | true => cond (Nat.beq ((xs.drop off).take n).length n) (some (.v (.agg ((xs.drop off).take n)))) none
      | _ => none
    | some (.v (.one (.pel e off))) => match ag with
      | false => match e[off]? with
        | some c => some (.v (.one (.d c)))
        | none => none
      | true => cond (Nat.beq ((e.drop off).take n).length n) (some (.v (.agg (((e.drop off).take n).map .d)))) none
    | _ => none

def aIndex (t : TypeId) (x y : Operand) : Option TV :=
  match ev st.tm y with
  | some (.v (.one (.d (.v (.int kk (.ofNat k)))))) => match lk T.sl t with
    | some (_, sz) => match ev st.tm x with
      | some (.v (.one (.osl i off len _))) => cond (Nat.blt k len) (some (.v (.one (.ptr i (off + k * sz))))) none
      | some (.v (.one z)) => match kk, aSl sz z with
        | .i64, some es => match es[k]? with
          | some e => some (.v (.one (.pel e 0)))
          | none => none
        | _, _ => none
      | _ => none
    | none => match lk T.arr t with
      | some (n, sz) => cond (Nat.blt k n) (match ev st.tm x with
        | some (.v (.one (.ptr i off))) => some (.v (.one (.ptr i (off + k * sz))))
        | some (.v (.one (.pel e off))) => some (.v (.one (.pel e (off + k * sz))))
        | _ => none) none
      | none => none
  | _ => none

def aIndexStr (t : TypeId) (x y : Operand) : Option TV :=
  match lk T.strs t, ev st.tm x, ev st.tm y with
  | some _, some (.v (.one (.d (.v (.string s))))), some (.v (.one (.d (.v (.int _ (.ofNat k)))))) => match s[k]? with
    | some b => some (TVv (.int .u8 b.toNat))
    | none => none
  | _, _, _ => none

def aExtract (x : Operand) (k : Nat) : Option TV :=
  match ev st.tm x with
  | some (.tup xs) => match xs[k]? with
    | some y => some (.v y)
    | none => none
  | _ => none

def evParts (tm : List (Nat × TV)) : List (Nat × Operand) → Option (List (Nat × AV))
  | [] => some []
  | (i, o) :: os => match ev tm o, evParts tm os with
    | some (.v x), some xs => some ((i, x) :: xs)
    | _, _ => none

def aBuild (t : TypeId) (parts : Array (Nat × Operand)) : Option TV :=
  match lk T.places t, lk T.zero t, evParts st.tm parts.toList with
  | some pl, some zs, some avs => match fillL pl (zs.map fun z => .d (.v z)) avs with
    | some ys => some (.v (.agg ys))
    | none => none
  | _, _, _ => none

def aPtrs (tm : List (Nat × TV)) : List Operand → Option (List (Nat × Nat))
  | [] => some []
  | o :: os => match ev tm o, aPtrs tm os with
    | some (.v (.one (.ptr i k))), some l => some ((i, k) :: l)
    | _, _ => none

def aFunc (fn : Fn) (first caps : List Operand) : Option (TV × Option Mem) :=
  match fn, first, aPtrs st.tm caps with
  | .func f, [], some l => some (.v (.one (.fn f l)), none)
  | _, _, _ => none

def aSlice (t : TypeId) (x : Operand) (lo hi mx : Option Operand) : Option TV :=
  match ev st.tm x with
  | some (.v (.one (.d (.v (.string s))))) => match lk T.strs t, boundsOf st s.size lo hi mx with
    | some _, some (l, h) => some (TVv (.string (s.extract l h)))
    | _, _ => none
  | some (.v (.one (.osl i off len cap))) => match lk T.sl t, boundsOf st len lo hi mx with
    | some (_, sz), some (l, h) => cond (Nat.ble len cap) (some (.v (.one (.osl i (cond (Nat.beq cap l) off (off + l * sz)) (h - l) (cap - l))))) none
    | _, _ => none
  | some (.v (.one y)) => match lk T.sl t with
    | some (_, sz) => match aSl sz y with
      | some es => match boundsOf st es.length lo hi mx with
        | some (l, h) => some (.v (.one (.d (.sl sz ((es.drop l).take (h - l))))))
        | none => none
      | none => none
    | none => none
  | _ => none

def aNil (x : Operand) : Option TV :=
  match ev st.tm x with
  | some (.v (.one (.ptr i off))) => some (.v (.one (.ptr i off)))
  | some (.v (.one (.pel e off))) => some (.v (.one (.pel e off)))
  | _ => none

def aConv (s t : TypeId) (x : Operand) : Option TV :=
  match lk T.ints s, lk T.ints t, ev st.tm x with
  | some _, some k', some (.v (.one (.d (.v (.int _ m))))) => some (TVv (.int k' (k'.wrap m)))
  | _, _, _ => none

def aLookup (t : TypeId) (x y : Operand) (ok : Bool) : Option TV :=
  match lk T.mp t, ev st.tm x, ev st.tm y with
  | some (ib, z), some (.v (.one (.mp i))), some (.v (.one (.d (.v k)))) => match lk st.hp i with
    | some (.mp es _) => cond (keyOf ib k) (match findE k es 0 with
      | some (some (_, x)) => some (cond ok (.tup [x, .one (.d (.v (.bool true)))]) (.v x))
      | some none => some (cond ok (.tup [z, .one (.d (.v (.bool false)))]) (.v z))
      | none => none) none
    | _ => none
  | _, _, _ => none

/-- builtins -/
def aBuiltin (b : Builtin) (as : List Operand) (ts : List TypeId) : Option (TV × Option Mem) :=
  match b, as, ts with
  | .len, [x], [t] => match ev st.tm x with
    | some (.v (.one (.d (.v (.string s))))) => match lk T.strs t with
      | some _ => some (TI s.size, none)
      | none => none
    | some (.v (.one (.osl _ _ len _))) => match lk T.sl t with
      | some _ => some (TI len, none)
      | none => none
    | some (.v (.one y)) => match lk T.sl t with
      | some (_, sz) => match aSl sz y with
        | some es => some (TI es.length, none)
        | none => none
      | none => none
    | _ => none
  | .max, [x, y], [_, _] => match ev st.tm x, ev st.tm y with
    | some (.v (.one (.d (.v (.int .i64 a))))), some (.v (.one (.d (.v (.int .i64 b))))) => some (TI (max a b), none)
    | _, _ => none
  | .min, [x, y], [_, _] => match ev st.tm x, ev st.tm y with
    | some (.v (.one (.d (.v (.int .i64 a))))), some (.v (.one (.d (.v (.int .i64 b))))) => some (TI (min a b), none)
    | _, _ => none
  | .append, [x, y], [t, t'] => match lk T.sl t with
    | some (e, sz) => match lk T.elem e, Nat.beq t t' with
      | some (sz', by_), true => cond (Nat.beq sz' sz && Nat.ble by_ 100000) (match ev st.tm y with
        | some (.v (.one z)) => match aSl sz z with
          | some es2 => match ev st.tm x with
            | some (.v (.one (.app i sz2 es))) => match lk st.tk i with
              | some (some T') => cond (Nat.beq sz2 sz && Nat.beq T'.E e && Nat.beq T'.sz sz && Nat.beq T'.n es.length && Nat.ble (es.length + es2.length) 1000000000)
                (some (.v (.one (.app i sz (es ++ es2))), some ⟨st.hp, (i, some ⟨e, sz, (es ++ es2).length⟩) :: dropK i st.tk, st.nx⟩)) none
              | _ => none
            | some (.v (.one (.d (.v (.slice none 0 0))))) => match es2 with
              | [] => some (TVv (.slice none 0 0), none)
              | e2 :: r => cond (Nat.ble (e2 :: r).length 1000000000) (some (.v (.one (.app st.nx sz (e2 :: r))), some ⟨st.hp, (st.nx, some ⟨e, sz, (e2 :: r).length⟩) :: st.tk, st.nx + 1⟩)) none
            | _ => none
          | none => none
        | _ => none) none
      | _, _ => none
    | none => none
  | _, _, _ => none

def chunks (sz : Nat) : Nat → List C → List (List C)
  | 0, _ => []
  | n + 1, l => l.take sz :: chunks sz n (l.drop sz)

def aLit (ap : Bool) (t len : Nat) (parts : Array (Nat × Operand)) : Option (TV × Option Mem) :=
  match lk T.sl t with
  | none => none
  | some (e, sz) => match lk T.zero e, evParts st.tm parts.toList with
    | some zs, some avs => cond (Nat.beq zs.length sz && Nat.blt 0 sz && Nat.ble (len * sz) 16777216) (match fillL (rowPlaces sz len) (zeroRow zs len) avs with
      | some ys => match T.oslT.contains t, asCs ys with
        | false, some cs => cond (Nat.beq cs.length (len * sz)) (cond ap
            (some (.v (.one (.app st.nx sz (chunks sz len cs))), some ⟨st.hp, (st.nx, some ⟨e, sz, len⟩) :: st.tk, st.nx + 1⟩))
            (some (.v (.one (.d (.sl sz (chunks sz len cs)))), none))) none
        | _, _ => some (.v (.one (.osl st.nx 0 len len)), some ⟨(st.nx, .cells e ys) :: st.hp, st.tk, st.nx + 1⟩)
      | none => none) none
    | _, _ => none

def aMake (t : TypeId) (x y : Operand) : Option (TV × Option Mem) :=
  match lk T.sl t, ev st.tm x, ev st.tm y with
  | some (e, sz), some (.v (.one (.d (.v (.int _ (.ofNat l)))))), some (.v (.one (.d (.v (.int _ (.ofNat c)))))) => match lk T.zero e, lk T.elem e with
    | some zs, some (sz', by_) => cond (Nat.beq zs.length sz && Nat.beq sz' sz && Nat.ble l c && Nat.ble (by_ * c) 281474976710656 && Nat.ble c 9223372036854775807)
      (some (.v (.one (.osl st.nx 0 l c)), some ⟨(st.nx, .cells e (zeroRow zs c)) :: st.hp, st.tk, st.nx + 1⟩)) none
    | _, _ => none
  | _, _, _ => none

def aStore (t : TypeId) (x y : Operand) : Option (TV × Option Mem) :=
  match lk T.agg t, ev st.tm x, ev st.tm y with
  | some (_, n), some (.v (.one (.ptr i off))), some (.v z) => match lk st.hp i with
    | some (.cells T' xs) => cond (Nat.beq z.cells.length n && Nat.ble (off + n) xs.length) (some (.tup [], some ⟨(i, .cells T' (setL xs off z.cells)) :: dropK i st.hp, st.tk, st.nx⟩)) none
    | _ => none
  | _, _, _ => none

def aMapSet (t : TypeId) (x y z : Operand) : Option (TV × Option Mem) :=
  match lk T.mp t, ev st.tm x, ev st.tm y with
  | some (ib, _), some (.v (.one (.mp i))), some (.v (.one (.d (.v k)))) => match lk st.hp i, ev st.tm z with
    | some (.mp es clock), some (.v v) => cond (keyOf ib k) (match findE k es 0 with
      | some (some (j, _)) => some (.tup [], some ⟨(i, .mp (es.modify j fun e => (k, v, e.2.2)) clock) :: dropK i st.hp, st.tk, st.nx⟩)
      | some none => some (.tup [], some ⟨(i, .mp (es ++ [(k, v, clock)]) (clock + 1)) :: dropK i st.hp, st.tk, st.nx⟩)
      | none => none) none
    | _, _ => none
  | _, _, _ => none

def aYield (r : Rec) (L : Nat) (args : List AV) : Option (TV × Option Mem) :=
  match lk st.hp L with
  | some (.loop .ready _ tm0 nt0 ps0 as0 bd0 _) => cond (Nat.beq args.length ps0.size && ps0.toList.all fun t => Nat.blt t nt0)
    (match r.exec (some L) as0 ⟨putArgs ps0.toList args tm0, st.hp, st.tk, st.nx, nt0, []⟩ with
      | some (.normal, sa) => match lk sa.hp L with
        | some (.loop .ready p1 tm1 nt1 ps1 as1 bd1 D1) => match r.exec (some L) bd0 ⟨sa.tm, (L, .loop .busy p1 tm1 nt1 ps1 as1 bd1 D1) :: dropK L sa.hp, sa.tk, sa.nx, sa.nt, sa.df⟩ with
          | some (e, sb) => match lk sb.hp L, jumpOf e with
            | some (.loop .busy _ tm2 nt2 ps2 as2 bd2 D2), some jump => some (TB jump.isNone, some ⟨(L, .loop (if jump.isNone then .ready else .done) jump tm2 nt2 ps2 as2 bd2 D2) :: dropK L sb.hp, sb.tk, sb.nx⟩)
            | _, _ => none
          | none => none
        | _ => none
      | _ => none) none
  | _ => none

def aCall (r : Rec) (x : Operand) (as : Array Operand) : Option (TV × Option Mem) :=
  match evArgs st.tm as.toList with
  | none => none
  | some args => match ev st.tm x with
    | some (.v (.one (.fn f caps))) => match caps, asAVs args with
      | [], some args' => match r.call f args' mem0 with
        | some (res, m1) => match T.keep.contains f, asTV res with
          | false, some res' => some (res', none)
          | _, _ => some (res.shift st.nx, some (st.mem.join m1))
        | none => none
      | _, _ => match r.call f (args ++ ptrs caps) st.mem with
        | some (res, m1) => some (res, some m1)
        | none => none
    | some (.v (.one (.yld L))) => aYield st r L args
    | _ => none

def aop (r : Rec) (ap : Bool) (o : Oper) : Option (TV × Option Mem) :=
  match o.op with
  | .move x => rd (ev st.tm x)
  | .assign x => rd (ev st.tm x)
  | .pick c x y => match ev st.tm c with
    | some (.v (.one (.d (.v (.bool true))))) => rd (ev st.tm x)
    | some (.v (.one (.d (.v (.bool false))))) => rd (ev st.tm y)
    | _ => none
  | .binOp op t x y _ => rd (aBin T st op t x y)
  | .unOp op _ x => rd (aUn st op x)
  | .fieldAddr s x f => rd (aField T st s x f)
  | .load t x => rd (aLoad T st t x)
  | .indexAddr t x y => rd (aIndex T st t x y)
  | .index t x y => rd (aIndexStr T st t x y)
  | .extract x k => rd (aExtract st x k)
  | .build t parts => rd (aBuild T st t parts)
  | .makeFunc fn first caps => aFunc st fn first.toList caps.toList
  | .nilCheck x => rd (aNil st x)
  | .convert s t x => rd (aConv T st s t x)
  | .slice t x lo hi mx => rd (aSlice T st t x lo hi mx)
  | .lookup t x y ok => rd (aLookup T st t x y ok)
  | .box t x => match ev st.tm x with
    | some (.v v) => some (.v (.one (.ptr st.nx 0)), some ⟨(st.nx, .cells t v.cells) :: st.hp, st.tk, st.nx + 1⟩)
    | _ => none
  | .alloc t => match lk T.zero t with
    | some zs => some (.v (.one (.ptr st.nx 0)), some ⟨(st.nx, .cells t (zs.map fun z => .d (.v z))) :: st.hp, st.tk, st.nx + 1⟩)
    | none => none
  | .store t x y => match o.dst with
    | none => aStore T st t x y
    | some _ => none
  | .buildSlice t len parts => aLit T st ap t len parts
  | .makeSlice t x y => aMake T st t x y
  | .makeMap _ none => some (.v (.one (.mp st.nx)), some ⟨(st.nx, .mp [] 0) :: st.hp, st.tk, st.nx + 1⟩)
  | .mapUpdate t x y z => match o.dst with
    | none => aMapSet T st t x y z
    | some _ => none
  | .call c => match c.callee with
    | .builtin b => aBuiltin T st b c.args.toList c.argTypes.toList
    | .value x => aCall T st r x c.args
    | _ => none
  | _ => none
end

/-! ### It is right. -/
section
variable {E : Env} {T : Cfg} {st : St} {dd : Option Nat} {ty : TypeId} {pos : String} {af : Array Edge} {g : Option (Nat × Bool)}

theorem beq_t {a b : Nat} {α : Type} {x y : α} (h : cond (Nat.beq a b) (some x) none = some y) : a = b ∧ x = y := by
  cases hb : Nat.beq a b with
  | false => rw [hb] at h; cases h
  | true => rw [hb] at h; cases h; exact ⟨Nat.eq_of_beq_eq_true hb, rfl⟩
theorem cond_t {b : Bool} {α : Type} {x : Option α} {y : α} (h : cond b x none = some y) : b = true ∧ x = some y := by
  cases b with
  | false => cases h
  | true => exact ⟨rfl, h⟩
theorem blt_t {a b : Nat} (h : Nat.blt a b = true) : a < b := Nat.le_of_ble_eq_true h

theorem aBin_ok (hT : T.OK E.P) {op : BinOp} {t t' : TypeId} {x y : Operand} {v : TV} (h : aBin T st op t x y = some v) : RO E ⟨dd, .binOp op t x y t', ty, pos, af, g⟩ st v := by
  unfold aBin at h
  split at h
  · rename_i k a k' b hx hy
    split at h
    · rename_i v' hv; cases h; exact RO.binInt hx hy hv
    · cases h
  · rename_i a b hx hy
    split at h
    · rename_i v' hv; cases h; exact RO.binStr hx hy hv
    · cases h
  · rename_i a b hx hy
    split at h
    · rename_i u hl; cases h; exact RO.eqBool (hT.bools.get hl) hx hy
    · rename_i u hl; cases h; exact RO.neqBool (hT.bools.get hl) hx hy
    · cases h
  · rename_i a0 a1 b0 b1 hx hy
    split at h
    · rename_i u hl; cases h; exact RO.eqPair (hT.pairs.get hl) hx hy
    · rename_i u hl; cases h; exact RO.neqPair (hT.pairs.get hl) hx hy
    · cases h
  · cases h

theorem aUn_ok {op : UnOp} {t : TypeId} {x : Operand} {v : TV} (h : aUn st op x = some v) : RO E ⟨dd, .unOp op t x, ty, pos, af, g⟩ st v := by
  unfold aUn at h
  split at h
  · rename_i b hx; cases h; exact RO.not hx
  · rename_i k m hx; cases h; exact RO.negI hx
  · cases h

theorem aField_ok (hT : T.OK E.P) {s f : Nat} {x : Operand} {v : TV} (h : aField T st s x f = some v) : RO E ⟨dd, .fieldAddr s x f, ty, pos, af, g⟩ st v := by
  unfold aField at h
  split at h
  · cases h
  · rename_i fs hfs
    split at h
    · cases h
    · rename_i k hk
      have hf := (hT.fld.get hfs).get hk
      split at h
      · rename_i i off hx; cases h; exact RO.fieldOwn hf hx
      · rename_i e off hx; cases h; exact RO.fieldPel hf hx
      · cases h

theorem aLoad_ok (hT : T.OK E.P) {t : Nat} {x : Operand} {v : TV} (h : aLoad T st t x = some v) : RO E ⟨dd, .load t x, ty, pos, af, g⟩ st v := by
  unfold aLoad at h
  split at h
  · cases h
  · rename_i ag n ha
    have ha := hT.agg.get ha
    split at h
    · rename_i i off hx
      split at h
      · rename_i T' xs hi
        split at h
        · split at h
          · rename_i y hy; cases h; exact RO.loadOwn ha hx hi hy
          · cases h
        · obtain ⟨hn, rfl⟩ := beq_t h
          exact RO.loadOwnAgg ha hx hi rfl hn
      · cases h
    · rename_i e off hx
      split at h
      · split at h
        · rename_i c hc; cases h; exact RO.loadPel ha hx hc
        · cases h
      · obtain ⟨hn, rfl⟩ := beq_t h
        exact RO.loadPelAgg ha hx rfl hn
    · cases h

theorem aIndex_ok (hT : T.OK E.P) {t : Nat} {x y : Operand} {v : TV} (h : aIndex T st t x y = some v) : RO E ⟨dd, .indexAddr t x y, ty, pos, af, g⟩ st v := by
  unfold aIndex at h
  split at h
  · rename_i kk k hy
    split at h
    · rename_i e sz hs
      have hs := hT.sl.get hs
      split at h
      · rename_i i off len cap hx
        obtain ⟨hb, hv⟩ := cond_t h
        cases hv
        exact RO.indexOsl hs hx hy rfl (blt_t hb)
      · rename_i z hnot hx
        split at h
        · rename_i es hes
          split at h
          · rename_i el hel; cases h; exact RO.index hs hx (aSl_ok hes) hy rfl hel
          · cases h
        · cases h
      · cases h
    · split at h
      · rename_i n sz ha
        have ha := hT.arr.get ha
        obtain ⟨hb, h⟩ := cond_t h
        split at h
        · rename_i i off hx; cases h; exact RO.indexArrOwn ha hx hy rfl (blt_t hb)
        · rename_i e off hx; cases h; exact RO.indexArrPel ha hx hy rfl (blt_t hb)
        · cases h
      · cases h
  · cases h

theorem aIndexStr_ok (hT : T.OK E.P) {t : Nat} {x y : Operand} {v : TV} (h : aIndexStr T st t x y = some v) : RO E ⟨dd, .index t x y, ty, pos, af, g⟩ st v := by
  unfold aIndexStr at h
  split at h
  · rename_i u s kk k ht hx hy
    split at h
    · rename_i b hb; cases h; exact RO.indexStr (hT.strs.get ht) hx hy rfl hb
    · cases h
  · cases h

theorem aExtract_ok {x : Operand} {k : Nat} {v : TV} (h : aExtract st x k = some v) : RO E ⟨dd, .extract x k, ty, pos, af, g⟩ st v := by
  unfold aExtract at h
  split at h
  · rename_i xs hx
    split at h
    · rename_i y hy; cases h; exact RO.extract hx hy
    · cases h
  · cases h

theorem evParts_spec {tm : List (Nat × TV)} : ∀ {ps : List (Nat × Operand)} {avs : List (Nat × AV)}, evParts tm ps = some avs → ps.length = avs.length ∧ ∀ (j i : Nat) (x : AV), avs[j]? = some (i, x) → ∃ o, ps[j]? = some (i, o) ∧ ev tm o = some (.v x)
  | [], avs, h => by cases h; exact ⟨rfl, fun j i x hx => by simp at hx⟩
  | (i0, o) :: ps, avs, h => by
    simp only [evParts] at h
    split at h
    · rename_i x xs hx hxs
      cases h
      obtain ⟨h1, h2⟩ := evParts_spec hxs
      refine ⟨by simp [h1], fun j i y hy => ?_⟩
      cases j with
      | zero => simp at hy; obtain ⟨rfl, rfl⟩ := hy; exact ⟨o, rfl, hx⟩
      | succ j => exact h2 j i y (by simpa using hy)
    · cases h

theorem aBuild_ok (hT : T.OK E.P) {t : Nat} {parts : Array (Nat × Operand)} {v : TV} (h : aBuild T st t parts = some v) : RO E ⟨dd, .build t parts, ty, pos, af, g⟩ st v := by
  unfold aBuild at h
  split at h
  · rename_i pl zs avs hpl hzs havs
    split at h
    · rename_i ys hf
      cases h
      obtain ⟨h1, h2⟩ := evParts_spec havs
      obtain ⟨hz1, hz2⟩ := hT.zero.get hzs
      exact RO.build ⟨hT.places.get hpl, hz1⟩ hz2 h1 h2 hf
    · cases h
  · cases h

theorem aPtrs_spec {tm : List (Nat × TV)} : ∀ {os : List Operand} {l : List (Nat × Nat)}, aPtrs tm os = some l → os.length = l.length ∧ ∀ (k : Nat) (p : Nat × Nat), l[k]? = some p → ∃ o, os[k]? = some o ∧ ev tm o = some (.v (.one (.ptr p.1 p.2)))
  | [], l, h => by cases h; exact ⟨rfl, fun k p hp => by simp at hp⟩
  | o :: os, l, h => by
    simp only [aPtrs] at h
    split at h
    · rename_i i k l' hx hl
      cases h
      obtain ⟨h1, h2⟩ := aPtrs_spec hl
      refine ⟨by simp [h1], fun j p hp => ?_⟩
      cases j with
      | zero => simp at hp; subst hp; exact ⟨o, rfl, hx⟩
      | succ j => exact h2 j p (by simpa using hp)
    · cases h

theorem aFunc_ok {fn : Fn} {first caps : Array Operand} {x : TV} {m : Option Mem} (h : aFunc st fn first.toList caps.toList = some (x, m)) : OpOK E ⟨dd, .makeFunc fn first caps, ty, pos, af, g⟩ st x (m.getD st.mem) := by
  obtain ⟨first⟩ := first
  obtain ⟨caps⟩ := caps
  unfold aFunc at h
  split at h
  · rename_i f l hl hfirst
    cases h
    subst hl
    obtain ⟨h1, h2⟩ := aPtrs_spec hfirst
    exact OpOK.of_ro (RO.makeFunc (by simpa using h1) (fun k p hp => by obtain ⟨o, h3, h4⟩ := h2 k p hp; exact ⟨o, by simpa using h3, h4⟩))
  · cases h

theorem aSlice_ok (hT : T.OK E.P) {t : Nat} {x : Operand} {lo hi mx : Option Operand} {v : TV} (h : aSlice T st t x lo hi mx = some v) : RO E ⟨dd, .slice t x lo hi mx, ty, pos, af, g⟩ st v := by
  unfold aSlice at h
  split at h
  · rename_i s hx
    split at h
    · rename_i u l h' ht hb; cases h; exact RO.sliceStr (hT.strs.get ht) hx hb
    · cases h
  · rename_i i off len cap hx
    split at h
    · rename_i e sz l h' ht hb
      obtain ⟨hc, hv⟩ := cond_t h
      cases hv
      have := RO.sliceOsl (E := E) (d := dd) (ty := ty) (pos := pos) (af := af) (g := g) (hT.sl.get ht) hx (Nat.le_of_ble_eq_true hc) hb
      have e1 : cond (Nat.beq cap l) off (off + l * sz) = if cap = l then off else off + l * sz := by
        cases hq : Nat.beq cap l with
        | true => rw [if_pos (Nat.eq_of_beq_eq_true hq)]; rfl
        | false => rw [if_neg (fun e => by subst e; simp at hq)]; rfl
      rw [e1]; exact this
    · cases h
  · rename_i y hn1 hn2 hx
    split at h
    · rename_i e sz ht
      split at h
      · rename_i es hes
        split at h
        · rename_i l h' hb; cases h; exact RO.sliceD (hT.sl.get ht) hx (aSl_ok hes) hb
        · cases h
      · cases h
    · cases h
  · cases h

theorem aNil_ok {x : Operand} {v : TV} (h : aNil st x = some v) : RO E ⟨dd, .nilCheck x, ty, pos, af, g⟩ st v := by
  unfold aNil at h
  split at h
  · rename_i i off hx; cases h; exact RO.nilCheckPtr hx
  · rename_i e off hx; cases h; exact RO.nilCheckPel hx
  · cases h

theorem aConv_ok (hT : T.OK E.P) {s t : Nat} {x : Operand} {v : TV} (h : aConv T st s t x = some v) : RO E ⟨dd, .convert s t x, ty, pos, af, g⟩ st v := by
  unfold aConv at h
  split at h
  · rename_i k k' k2 m hs ht hx
    cases h
    refine RO.convInt (hT.ints.get ht) ?_ hx
    have := hT.ints.get hs
    unfold tyInt at this
    split at this
    · rename_i hu; exact ⟨_, hu⟩
    · cases this
  · cases h

theorem aLookup_ok (hT : T.OK E.P) {t : Nat} {x y : Operand} {ok : Bool} {v : TV} (h : aLookup T st t x y ok = some v) : RO E ⟨dd, .lookup t x y ok, ty, pos, af, g⟩ st v := by
  unfold aLookup at h
  split at h
  · rename_i ib z i k ht hx hy
    split at h
    · rename_i es clock hi
      obtain ⟨hk, h⟩ := cond_t h
      split at h
      · rename_i j x' hf; cases h; exact RO.lookup (hT.mp.get ht) hx hy hk hi hf ok
      · rename_i hf; cases h; exact RO.lookup (hT.mp.get ht) hx hy hk hi hf ok
      · cases h
    · cases h
  · cases h

theorem aBuiltin_ok (hT : T.OK E.P) {b : Builtin} {as : Array Operand} {ts : Array TypeId} {x : TV} {m : Option Mem} (h : aBuiltin T st b as.toList ts.toList = some (x, m)) : OpOK E ⟨dd, .call { callee := .builtin b, args := as, argTypes := ts }, ty, pos, af, g⟩ st x (m.getD st.mem) := by
  obtain ⟨as⟩ := as
  obtain ⟨ts⟩ := ts
  simp only at h
  unfold aBuiltin at h
  split at h
  · rename_i x0 t
    split at h
    · rename_i s hx
      split at h
      · rename_i u ht; cases h; exact OpOK.of_ro (RO.lenStr (hT.strs.get ht) hx)
      · cases h
    · rename_i i off len cap hx
      split at h
      · rename_i u ht; cases h; exact OpOK.of_ro (RO.lenOsl (hT.sl.get ht) hx)
      · cases h
    · rename_i y hn1 hn2 hx
      split at h
      · rename_i e sz ht
        split at h
        · rename_i es hes; cases h; exact OpOK.of_ro (RO.len (hT.sl.get ht) hx (aSl_ok hes))
        · cases h
      · cases h
    · cases h
  · split at h
    · rename_i hx hy; cases h; exact OpOK.of_ro (RO.max2 hx hy)
    · cases h
  · split at h
    · rename_i hx hy; cases h; exact OpOK.of_ro (RO.min2 hx hy)
    · cases h
  · rename_i x0 y0 t t'
    split at h
    · rename_i e sz ht
      have ht := hT.sl.get ht
      split at h
      · rename_i sz' by_ hel hbt
        have htt : t = t' := Nat.eq_of_beq_eq_true hbt
        subst htt
        have hel := hT.elem.get hel
        obtain ⟨hc, h⟩ := cond_t h
        simp only [Bool.and_eq_true] at hc
        have hsz : sz' = sz := Nat.eq_of_beq_eq_true hc.1
        subst hsz
        have hby := Nat.le_of_ble_eq_true hc.2
        split at h
        · rename_i z hy
          split at h
          · rename_i es2 hes
            have hes := aSl_ok hes
            split at h
            · rename_i i sz2 es hx
              split at h
              · rename_i T' hi
                obtain ⟨hc2, h⟩ := cond_t h
                cases h
                simp only [Bool.and_eq_true] at hc2
                obtain ⟨⟨⟨⟨q1, q2⟩, q3⟩, q4⟩, q5⟩ := hc2
                have e1 := Nat.eq_of_beq_eq_true q1
                have e2 := Nat.eq_of_beq_eq_true q2
                have e3 := Nat.eq_of_beq_eq_true q3
                have e4 := Nat.eq_of_beq_eq_true q4
                obtain ⟨TE, Ts, Tn⟩ := T'
                dsimp only at e2 e3 e4
                subst e1; subst e2; subst e3; subst e4
                exact OpOK.appendApp ht hel hby hx hi hy hes (Nat.le_of_ble_eq_true q5)
              · cases h
            · rename_i hx
              split at h
              · cases h; exact OpOK.appendNil0 ht hx hy hes
              · rename_i e2 r
                obtain ⟨hc2, h⟩ := cond_t h
                cases h
                exact OpOK.appendNil ht hel hby hx hy hes (Nat.le_of_ble_eq_true hc2) (by simp)
            · cases h
          · cases h
        · cases h
      · cases h
    · cases h
  · cases h

theorem chunks_spec {sz : Nat} : ∀ (n : Nat) (l : List C), l.length = n * sz → (chunks sz n l).flatten = l ∧ (∀ x ∈ chunks sz n l, x.length = sz) ∧ (chunks sz n l).length = n
  | 0, l, h => by
    have : l = [] := List.eq_nil_of_length_eq_zero (by simpa using h)
    subst this
    exact ⟨rfl, fun x hx => by simp [chunks] at hx, rfl⟩
  | n + 1, l, h => by
    rw [Nat.succ_mul] at h
    obtain ⟨h1, h2, h3⟩ := chunks_spec (sz := sz) n (l.drop sz) (by rw [List.length_drop]; omega)
    refine ⟨by simp only [chunks, List.flatten_cons, h1, List.take_append_drop], fun x hx => ?_, by simp [chunks, h3]⟩
    simp only [chunks, List.mem_cons] at hx
    rcases hx with rfl | hx
    · rw [List.length_take]; omega
    · exact h2 x hx

theorem aLit_ok (hT : T.OK E.P) {ap : Bool} {t len : Nat} {parts : Array (Nat × Operand)} {x : TV} {m : Option Mem} (h : aLit T st ap t len parts = some (x, m)) : OpOK E ⟨dd, .buildSlice t len parts, ty, pos, af, g⟩ st x (m.getD st.mem) := by
  unfold aLit at h
  split at h
  · cases h
  · rename_i e sz ht
    have ht := hT.sl.get ht
    split at h
    · rename_i zs avs hzs havs
      obtain ⟨hz1, hz2⟩ := hT.zero.get hzs
      obtain ⟨h1, h2⟩ := evParts_spec havs
      obtain ⟨hc, h⟩ := cond_t h
      simp only [Bool.and_eq_true] at hc
      obtain ⟨⟨q1, q2⟩, q3⟩ := hc
      have e1 := Nat.eq_of_beq_eq_true q1
      have e2 := blt_t q2
      have e3 := Nat.le_of_ble_eq_true q3
      split at h
      · rename_i ys hf
        split at h
        · rename_i cs ho hcs
          obtain ⟨hc, h⟩ := cond_t h
          obtain ⟨c1, c2, c3⟩ := chunks_spec len cs (Nat.eq_of_beq_eq_true hc)
          have hsub : CSubs ys (chunks sz len cs).flatten := by rw [c1]; exact (asCs_subs hcs).1
          cases ap with
          | true =>
            cases h
            have := OpOK.litApp (E := E) (dd := dd) (ty := ty) (pos := pos) (af := af) (g := g) (chunks sz len cs) ht hz1 e1 hz2 e2 e3 h1 h2 hf hsub c2 c3
            rw [c3] at this; exact this
          | false =>
            cases h
            exact OpOK.litData (chunks sz len cs) ht hz1 e1 hz2 e3 h1 h2 hf hsub c2 c3
        · cases h; exact OpOK.litOsl ht hz1 e1 hz2 e3 h1 h2 hf
      · cases h
    · cases h

theorem aMake_ok (hT : T.OK E.P) {t : Nat} {o1 o2 : Operand} {x : TV} {m : Option Mem} (h : aMake T st t o1 o2 = some (x, m)) : OpOK E ⟨dd, .makeSlice t o1 o2, ty, pos, af, g⟩ st x (m.getD st.mem) := by
  unfold aMake at h
  split at h
  · rename_i e sz k1 l k2 c ht hx hy
    split at h
    · rename_i zs sz' by_ hzs hel
      obtain ⟨hc, h⟩ := cond_t h
      cases h
      simp only [Bool.and_eq_true] at hc
      obtain ⟨⟨⟨⟨q1, q2⟩, q3⟩, q4⟩, q5⟩ := hc
      have e2 := Nat.eq_of_beq_eq_true q2
      subst e2
      obtain ⟨hz1, hz2⟩ := hT.zero.get hzs
      exact OpOK.makeSlice (hT.sl.get ht) hz1 (Nat.eq_of_beq_eq_true q1) hz2 (hT.elem.get hel) hx hy (Nat.le_of_ble_eq_true q3) (Nat.le_of_ble_eq_true q4) (Nat.le_of_ble_eq_true q5)
    · cases h
  · cases h

theorem aStore_ok (hT : T.OK E.P) {t : Nat} {o1 o2 : Operand} {x : TV} {m : Option Mem} (h : aStore T st t o1 o2 = some (x, m)) : OpOK E ⟨none, .store t o1 o2, ty, pos, af, g⟩ st x (m.getD st.mem) := by
  unfold aStore at h
  split at h
  · rename_i ag n i off z ht hx hy
    split at h
    · rename_i T' xs hi
      obtain ⟨hc, h⟩ := cond_t h
      cases h
      simp only [Bool.and_eq_true] at hc
      exact OpOK.store (hT.agg.get ht) hx hy hi (Nat.eq_of_beq_eq_true hc.1) (Nat.le_of_ble_eq_true hc.2) rfl
    · cases h
  · cases h

theorem aMapSet_ok (hT : T.OK E.P) {t : Nat} {o1 o2 o3 : Operand} {x : TV} {m : Option Mem} (h : aMapSet T st t o1 o2 o3 = some (x, m)) : OpOK E ⟨none, .mapUpdate t o1 o2 o3, ty, pos, af, g⟩ st x (m.getD st.mem) := by
  unfold aMapSet at h
  split at h
  · rename_i ib z i k ht hx hy
    split at h
    · rename_i es clock v hi hz
      obtain ⟨hk, h⟩ := cond_t h
      split at h
      · rename_i j x' hf; cases h; exact OpOK.mapUpdate (hT.mp.get ht) hx hy hz hk hi hf rfl
      · rename_i hf; cases h; exact OpOK.mapUpdate (hT.mp.get ht) hx hy hz hk hi hf rfl
      · cases h
    · cases h
  · cases h

theorem aYield_ok {r : Rec} (hr : RecOK E.P r) {o : Operand} {L : Nat} {as : Array Operand} {ats : Array TypeId} {args : List AV} {x : TV} {m : Option Mem} (hx : ev st.tm o = some (.v (.one (.yld L)))) (ha : evArgs st.tm as.toList = some args) (h : aYield st r L args = some (x, m)) :
    OpOK E ⟨dd, .call { callee := .value o, args := as, argTypes := ats }, ty, pos, af, g⟩ st x (m.getD st.mem) := by
  unfold aYield at h
  split at h
  · rename_i p0 tm0 nt0 ps0 as0 bd0 D0 hL
    obtain ⟨hc, h⟩ := cond_t h
    simp only [Bool.and_eq_true] at hc
    split at h
    · rename_i sa h1
      split at h
      · rename_i p1 tm1 nt1 ps1 as1 bd1 D1 h2
        split at h
        · rename_i e sb h3
          split at h
          · rename_i p2 tm2 nt2 ps2 as2 bd2 D2 jump h4 he
            cases h
            refine OpOK.yield hx ha hL ?_ hc.2 (hr.exec h1) h2 (hr.exec h3) h4 he
            have h5 := Nat.eq_of_beq_eq_true hc.1
            have h6 := (evArgs_spec ha).1
            simp only [Array.length_toList] at h6
            omega
          · cases h
        · cases h
      · cases h
    · cases h
  · cases h

theorem aCall_ok {r : Rec} (hr : RecOK E.P r) {o : Operand} {as : Array Operand} {ats : Array TypeId} {x : TV} {m : Option Mem} (h : aCall T st r o as = some (x, m)) : OpOK E ⟨dd, .call { callee := .value o, args := as, argTypes := ats }, ty, pos, af, g⟩ st x (m.getD st.mem) := by
  unfold aCall at h
  split at h
  · cases h
  · rename_i args ha
    split at h
    · rename_i f caps hx
      split at h
      · rename_i args' hs
        split at h
        · rename_i res m1 hc
          split at h
          · rename_i res' hk hres; cases h; exact OpOK.callPure hx ha hs (hr.call hc) hres
          · cases h; exact OpOK.callJoin hx ha hs (hr.call hc)
        · cases h
      · split at h
        · rename_i res m1 hc; cases h; exact OpOK.call hx ha (hr.call hc)
        · cases h
    · rename_i L hx; exact aYield_ok hr hx ha h
    · cases h

theorem rd_ok {o : Oper} {v : Option TV} {x : TV} {m : Option Mem} (h : rd v = some (x, m)) (hv : ∀ y, v = some y → RO E o st y) : OpOK E o st x (m.getD st.mem) := by
  unfold rd at h
  split at h
  · rename_i y; cases h; exact OpOK.of_ro (hv _ rfl)
  · cases h

theorem aop_ok (hT : T.OK E.P) {r : Rec} (hr : RecOK E.P r) {ap : Bool} {o : Oper} {x : TV} {m : Option Mem} (h : aop T st r ap o = some (x, m)) : OpOK E o st x (m.getD st.mem) := by
  obtain ⟨dst, op, ty, pos, af, g⟩ := o
  unfold aop at h
  dsimp only at h
  split at h
  · exact rd_ok h fun y hy => RO.move hy
  · exact rd_ok h fun y hy => RO.assign hy
  · split at h
    · rename_i hc; exact rd_ok h fun y hy => RO.pickT hc hy
    · rename_i hc; exact rd_ok h fun y hy => RO.pickF hc hy
    · cases h
  · exact rd_ok h fun y hy => aBin_ok hT hy
  · exact rd_ok h fun y hy => aUn_ok hy
  · exact rd_ok h fun y hy => aField_ok hT hy
  · exact rd_ok h fun y hy => aLoad_ok hT hy
  · exact rd_ok h fun y hy => aIndex_ok hT hy
  · exact rd_ok h fun y hy => aIndexStr_ok hT hy
  · exact rd_ok h fun y hy => aExtract_ok hy
  · exact rd_ok h fun y hy => aBuild_ok hT hy
  · exact aFunc_ok h
  · exact rd_ok h fun y hy => aNil_ok hy
  · exact rd_ok h fun y hy => aConv_ok hT hy
  · exact rd_ok h fun y hy => aSlice_ok hT hy
  · exact rd_ok h fun y hy => aLookup_ok hT hy
  · split at h
    · rename_i v hx; cases h; exact OpOK.box hx
    · cases h
  · split at h
    · rename_i zs hz; cases h; exact OpOK.alloc (hT.zero.get hz).1 (hT.zero.get hz).2
    · cases h
  · split at h
    · exact aStore_ok hT h
    · cases h
  · exact aLit_ok hT h
  · exact aMake_ok hT h
  · cases h; exact OpOK.makeMap
  · split at h
    · exact aMapSet_ok hT h
    · cases h
  · rename_i c
    obtain ⟨callee, args, ats⟩ := c
    dsimp only at h
    split at h
    · exact aBuiltin_ok hT h
    · exact aCall_ok hr h
    · cases h
  · cases h
end
end Go.Proofs.YtcapifnaceegmaaGreatDoor
