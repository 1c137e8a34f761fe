/- Part 4 of the proof: rules, mirrors and plain laws. The card of TextSpaces is proved here: for every string and every byte the law returns true, and the arguments read behind the call as they did before; condition: the listed package-level variables hold what the text of the program lays (tied). -/
import Derived.Test.YtjcfppnjamjjhaaGreatDoorK73
import Derived.Shelf.Strings.Builder1
import Derived.Lib.LaidTab
import Derived.Lib.ItoaNum
import Derived.Lib.AtoiErrMem
import Derived.Shelf.SlIterI.Sorted
import Derived.Shelf.SlIterI.Collect
import Derived.Shelf.SortM.Plain
import Derived.Shelf.SortM.SortNone
import Derived.Shelf.Strings.Trim
import Derived.Shelf.Small.Wraps
import Derived.Shelf.Small.Strs
import Derived.Ground.NamesProg
import Derived.Ground.GgzProg
import Derived.Ground.SlgmProg
import Derived.Test.YtjcfppnjamjjhaaGreatDoorProg
set_option maxHeartbeats 2000000
set_option maxRecDepth 100000
set_option linter.unusedSimpArgs false
set_option linter.unusedVariables false
set_option linter.unusedSectionVars false
namespace Go.Proofs.YtjcfppnjamjjhaaGreatDoor
noncomputable section
open Go.RowKit
def OutM.ren (ρ:Nat→Nat) (hpF:List (Nat×HB)) (tkF:List (Nat×Option Tok)) (nx2:Nat):OutM→OutM
 | .val x m=>.val (x.ren ρ) ⟨Js ρ m.hp++hpF,JV ρ m.tk++tkF,nx2⟩
 | .die v m=>.die v ⟨Js ρ m.hp++hpF,JV ρ m.tk++tkF,nx2⟩
def OutM.m:OutM→Mem
 | .val _ m=>m
 | .die _ m=>m
theorem CallO.ren {W:Wd} {P:Program} {f:FuncId} {args0:List AV} {hp0 hpF hp:List (Nat×HB)} {tk0 tkF tk:List (Nat×Option Tok)} {nx0 nx2 n:Nat} {o:OutM} (rs:List Nat) (hc:CallO W P f args0 ⟨hp0,tk0,nx0⟩ o)
  (hh:hpLe hp (Js (Ki rs n) hp0)) (ht:tkLe tk (JV (Ki rs n) tk0)) (hhF:hpLe hp hpF) (htF:tkLe tk tkF) (hl:rs.length=nx0) (hnd:rs.Nodup) (hlt:∀ j∈rs,j < n) (d1:∀ i B,Qq8 hpF i=some B→i∉rs) (d2:∀ i T,Qq8 tkF i=some (some T)→i∉rs)
  (b0:hpBelow nx0 hp0) (c0:tkBelow nx0 tk0) (ba:∀ y∈args0,y.below nx0) (hle:nx0≤o.m.nx) (hn:o.m.nx+n=nx2+nx0) :
  CallO W P f (args0.map (AV.ren (Ki rs n))) ⟨hp,tk,n⟩ (o.ren (Ki rs n) hpF tkF nx2):=by
 have hen:Qc P f:=by cases o <;> exact hc.1
 have inj:∀ i j,Ki rs n i=Ki rs n j→i=j:=fun i j h=>Qex hnd hlt h
 refine YK hen fun E V w vs hP hWp H hnx hargs=>?_
 dsimp only at H hnx
 have h0:=(H.forgetLe hh ht).part inj b0 c0
 have har:argsRel (pull (Ki rs n) V nx0) w args0 vs:=by
  obtain ⟨h1,h2⟩:=hargs
  refine ⟨by simpa using h1,fun i y hy=>?_⟩
  obtain ⟨u,hu,hyu⟩:=h2 i (y.ren _) (by rw [Cl,hy];rfl)
  exact ⟨u,hu,hyu.pull (ba y (Cs hy))⟩
 have turn:∀ {V1:Vu} {hp1:List (Nat×HB)} {tk1:List (Nat×Option Tok)} {nx1:Nat} {w':World},nx0≤nx1→nx1+n=nx2+nx0→V1.nx=nx1→HRel ⟨E.P,w,Xz V (Js (Ki rs n) hp0) (JV (Ki rs n) tk0),pull (Ki rs n) V nx0⟩ V1 hp1 tk1 w'→HRel E (Zx (Ki rs n) V V1 nx2) (Js (Ki rs n) hp1++hpF) (JV (Ki rs n) tk1++tkF) w'∧V.Le (Zx (Ki rs n) V V1 nx2) w w'∧Via (Ki rs n) V1 (Zx (Ki rs n) V V1 nx2):=fun hle hn hn1 Hr =>
  H.turn (n:=nx2) inj hh ht hhF htF (fun i hi=>by rw [hnx];exact hlt _ (Ga (by omega))) (fun i hi=>by rw [Ug (by omega),hnx,hl])
   (fun i B hi k hk e=>d1 i B hi (by rw [← e];exact Ga (by omega))) (fun i T hi k hk e=>d2 i T hi (by rw [← e];exact Ga (by omega))) b0 c0 (by rw [hn1,hnx];exact hn) (by rw [hn1];exact hle) Hr
 cases o with
 | val x m =>
  refine (hc.2 ⟨E.P,w,Xz V _ _,pull (Ki rs n) V nx0⟩ (pull (Ki rs n) V nx0) w vs hP hWp h0 Z har).mono ?_
  rintro e w' ⟨v,V1,rfl,H1,hn1,L,hres⟩
  obtain ⟨H2,L2,L3⟩:=turn hle hn hn1 H1
  exact ⟨v,_,Z,H2,Z,L2,hres.via L3⟩
 | die pv m =>
  refine (hc.2 ⟨E.P,w,Xz V _ _,pull (Ki rs n) V nx0⟩ (pull (Ki rs n) V nx0) w vs hP hWp h0 Z har).mono ?_
  rintro e w' ⟨V1,rfl,H1,hn1,L⟩
  obtain ⟨H2,L2,L3⟩:=turn hle hn hn1 H1
  exact ⟨_,Z,H2,Z,L2⟩
theorem CallO.pre {W:Wd} {P:Program} {f:FuncId} {args:List AV} {m m0:Mem} {o:OutM} (hh:∀ i B,Qq8 m0.hp i=some B→∃ A,Qq8 m.hp i=some A∧∀ V w o,A.rel V w o→B.rel V w o) (ht:∀ i T,Qq8 m0.tk i=some (some T)→Qq8 m.tk i=some (some T)) (hn:m.nx=m0.nx) (hc:CallO W P f args m0 o):CallO W P f args m o:=by
 have hen:Qc P f:=by cases o <;> exact hc.1
 refine YK hen fun E V w vs hP hWp H hnx hargs=>?_
 cases o with
 | val x m'=>exact hc.2 E V w vs hP hWp (H.weak hh ht) (hnx.trans hn) hargs
 | die v m'=>exact hc.2 E V w vs hP hWp (H.weak hh ht) (hnx.trans hn) hargs
def OutM.with (m':Mem):OutM→OutM
 | .val x _=>.val x m'
 | .die v _=>.die v m'
theorem CallO.post {W:Wd} {P:Program} {f:FuncId} {args:List AV} {m m':Mem} {o:OutM} (hh:∀ i B,Qq8 m'.hp i=some B→∃ A,Qq8 o.m.hp i=some A∧∀ V w o,A.rel V w o→B.rel V w o) (ht:∀ i T,Qq8 m'.tk i=some (some T)→Qq8 o.m.tk i=some (some T)) (hn:m'.nx=o.m.nx) (hc:CallO W P f args m o):CallO W P f args m (o.with m'):=by
 have hen:Qc P f:=by cases o <;> exact hc.1
 refine YK hen fun E V w vs hP hWp H hnx hargs=>?_
 cases o with
 | val x m1 =>
  refine (hc.2 E V w vs hP hWp H hnx hargs).mono ?_
  rintro e w' ⟨v,V1,rfl,H1,hn1,L,hres⟩
  exact ⟨v,V1,Z,H1.weak hh ht,hn1.trans hn.symm,L,hres⟩
 | die v m1 =>
  refine (hc.2 E V w vs hP hWp H hnx hargs).mono ?_
  rintro e w' ⟨V1,rfl,H1,hn1,L⟩
  exact ⟨V1,Z,H1.weak hh ht,hn1.trans hn.symm,L⟩
theorem CallO.args {W:Wd} {P:Program} {f:FuncId} {args args':List AV} {m:Mem} {o:OutM} (ha:∀ V w vs,argsRel V w args' vs→argsRel V w args vs) (hc:CallO W P f args m o):CallO W P f args' m o:=by
 have hen:Qc P f:=by cases o <;> exact hc.1
 refine YK hen fun E V w vs hP hWp H hnx hargs=>?_
 cases o with
 | val x m'=>exact hc.2 E V w vs hP hWp H hnx (ha V w vs hargs)
 | die v m'=>exact hc.2 E V w vs hP hWp H hnx (ha V w vs hargs)
end
noncomputable section
open Go.RowKit
section
variable {U:Univ} (D:Codec U)
variable (U) in
structure KF where
 args:List (AK U)
 res:List (AK U)
 m:tup args→Option (tup res)
def Qho (k:AK U) (x:TAV U):Option k.Ty:=cond (JX k&&Qb6 k x) (Qe2 D [] k x) none
def Qe1:(ks:List (AK U))→List (TAV U)→Option (tup ks)
 | [],[]=>some ()
 | [k],[x]=>Qho D k x
 | k::k2::r,x::xs=>match Qho D k x with
  | some a=>match Qe1 (k2::r) xs with
   | some b=>some (a,b)
   | none=>none
  | none=>none
 | _,_=>none
def Qb4 (rk:List (AK U)) (r:tup rk):TTV U:=match Gf rk r with
 | [x]=>.v x
 | xs=>.tup xs
def Qnk (tb:List (Nat×KF U)) (f:FuncId) (args:List (TAV U)):Option (KR U):=match Qq8 tb f with
 | some kf=>match Qe1 D kf.args args with
  | some v=>some ⟨tup kf.res,kf.m v,Qb4 kf.res⟩
  | none=>none
 | none=>none
def Yb (W:Wd) (P:Program) (f:Nat) (kf:KF U):Prop:=kf.res.all JX=true∧∀ v r,kf.m v=some r→FunW W P f (QM D kf.args v) (Qh (QM D kf.res r))
variable {D}
theorem XK {tk:List (Nat×TTok U)}:∀ {xs ys:List (It U)},JF [] xs=some ys→JF tk xs=some ys
 | [],ys,h=>h
 | .grp t x::r,ys,h=>by
  unfold JF at h ⊢
  split at h
  ·rename_i zs hz;rw [XK hz];exact h
  ·cases h
 | .one x::r,ys,h=>by
  unfold JF at h ⊢
  split at h
  ·rename_i y zs hy hz
   rw [XK hz]
   have e:Kh tk x=some y:=by
    cases x with
    | c x=>exact hy
    | app i ver=>cases hy
    | ptr i off=>cases hy
    | pel t x off=>cases hy
    | fn f caps=>cases hy
    | raw x=>cases hy
   rw [e];exact h
  ·cases h
theorem bldT_nil {tk:List (Nat×TTok U)} {t:U.T} {xs:List (It U)} {x:U.R t} (h:Q4r D [] t xs=some x):Q4r D tk t xs=some x:=by
 have key:∀ L:List (It U),(match JF [] L with
   | some ys=>D.bld t ys
   | none=>none)=some x→(match JF tk L with
   | some ys=>D.bld t ys
   | none=>none)=some x:=by
  intro L hL
  split at hL
  ·rename_i ys hy;rw [XK hy];exact hL
  ·cases hL
 cases xs with
 | nil=>exact key [] h
 | cons a r =>
  cases r with
  | nil =>
   cases a with
   | grp t' y=>exact h
   | one y=>exact key [.one y] h
  | cons b r=>cases a <;> exact key _ h
theorem lsub_of {xs:List CA} {cs:List C} (h:CSubs xs cs):LSub xs (cs.map .d):=by
 induction h with
 | nil=>exact .nil
 | cons h t ih=>exact .cons h ih
theorem Q2k (hD:D.OK) (tk:List (Nat×TTok U)) (t:U.T) (x:U.R t):Jf D tk [It.grp t x]=((U.E t).enc x).map .d:=by
 unfold Jf
 rw [KT,Q74 hD]
theorem D8 {tk:List (Nat×TTok U)} {x:TAV U} {c:C} (h:∃ y,x=.one y∧CSub (y.er tk) c):ASub (x.er D tk) (.one (.d c)):=by
 obtain ⟨y,rfl,h⟩:=h
 exact .one h
theorem sl_csub {tk:List (Nat×TTok U)} {t:U.T} {x:TAV U} {l:List (U.R t)} (h:G5 [] t (.v x)=some l):∃ y,x=.one y∧CSub (y.er tk) (.sl (U.E t).sz ((U.E t).encL l)):=by
 cases x with
 | agg xs=>cases h
 | one y =>
  refine ⟨y,Z,?_⟩
  cases y with
  | c z =>
   cases z with
   | v w =>
    unfold G5 at h
    split at h
    ·rename_i heq;cases heq
    ·rename_i heq
     cases heq
     cases h
     have e:(U.E t).encL []=[]:=(U.E t).nil
     rw [e]
     exact .nil _
    ·rename_i heq;cases heq
    ·cases h
   | str s=>cases h
   | sl t' l' =>
    have h':Gg t' t l'=some l:=h
    obtain ⟨e,rfl⟩:=YU h'
    subst e
    exact .d _
  | ptr i off=>cases h
  | pel t x off=>cases h
  | fn f caps=>cases h
  | app i ver=>cases h
  | raw x=>cases h
theorem Q7a (hD:D.OK) {k:AK U} {x:TAV U} {v:k.Ty} (h:Qho D k x=some v) (tk:List (Nat×TTok U)):ASub (x.er D tk) ((GK k v 0).er D []):=by
 unfold Qho at h
 cases hc:(JX k&&Qb6 k x) with
 | false=>rw [hc] at h;cases h
 | true =>
  rw [hc,C6] at h
  obtain ⟨b1,b2⟩:=C0.1 hc
  cases k with
  | app i e t=>cases b1
  | ptr i o=>cases b1
  | any=>cases b1
  | int k =>
   refine D8 ?_
   replace h:Q4l k x=some v:=h
   unfold Q4l at h
   split at h
   ·rename_i k0 a
    cases hk:decide (k0=k) with
    | false=>rw [hk] at h;cases h
    | true =>
     rw [hk] at h;cases h
     have e:=CH hk
     subst e
     exact ⟨_,Z,CSub.d _⟩
   ·cases h
  | bool =>
   refine D8 ?_
   replace h:Du x=some v:=h
   unfold Du at h
   split at h
   ·cases h;exact ⟨_,rfl,.d _⟩
   ·cases h
  | str =>
   refine D8 ?_
   replace h:Q4k x=some v:=h
   unfold Q4k at h
   split at h
   ·cases h;exact ⟨_,rfl,.d _⟩
   ·cases h
  | sl t =>
   exact D8 (sl_csub h)
  | stc t =>
   cases x with
   | one y=>cases b2
   | agg xs =>
    have key:∀ (w:U.R t),Q4r D [] t xs=some w→ASub (AV.agg (Jf D tk xs)) (AV.agg (Jf D [] [It.grp t w])):=by
     intro w hw
     rw [Q2k hD]
     exact .agg (lsub_of (Q2l hD (bldT_nil (tk:=tk) hw)))
    exact key v h
theorem Q0l (hD:D.OK):∀ {ks:List (AK U)} {xs:List (TAV U)} {v:tup ks},Qe1 D ks xs=some v→∀ tk,ASubL (xs.map (TAV.er D tk)) (QM D ks v)
 | [],[],v,h,tk=>.nil
 | [],x::xs,v,h,tk=>by cases h
 | [k],[],v,h,tk=>by cases h
 | [k],[x],v,h,tk=>.cons (Q7a hD h tk) .nil
 | [k],x::y::xs,v,h,tk=>by cases h
 | k::k2::r,[],v,h,tk=>by cases h
 | k::k2::r,x::xs,v,h,tk=>by
  have h2:(match Qho D k x with
   | some a=>match Qe1 D (k2::r) xs with
    | some b=>(some (a,b):Option (k.Ty×tup (k2::r)))
    | none=>none
   | none=>none)=some v:=h
  cases ha:Qho D k x with
  | none=>rw [ha] at h2;cases h2
  | some a =>
   rw [ha] at h2
   dsimp only at h2
   cases hb:Qe1 D (k2::r) xs with
   | none=>rw [hb] at h2;cases h2
   | some b =>
    rw [hb] at h2;cases h2
    exact .cons (Q7a hD ha tk) (Q0l hD hb tk)
theorem UD (hD:D.OK) (tk:List (Nat×TTok U)):∀ {rk:List (AK U)} (r:tup rk),rk.all JX=true→(Gf rk r).map (TAV.er D tk)=QM D rk r
 | [],r,h=>rfl
 | [k],r,h=>by
  have hk:=(C0.1 (show (JX k&&true)=true from h)).1
  show [(GK k r 0).er D tk]=[(GK k r 0).er D []]
  rw [Q77 hD hk r tk []]
 | k::k2::rk,r,h=>by
  obtain ⟨hk,hr⟩:=C0.1 (show (JX k&&(k2::rk).all JX)=true from h)
  have ih:=UD hD tk (rk:=k2::rk) r.2 hr
  show (GK k r.1 0).er D tk::(Gf (k2::rk) r.2).map _=(GK k r.1 0).er D []::QM D (k2::rk) r.2
  rw [Q77 hD hk r.1 tk [],ih]
theorem Qfc (hD:D.OK) (tk:List (Nat×TTok U)) {rk:List (AK U)} (r:tup rk) (h:rk.all JX=true):(Qb4 rk r).er D tk=Qh (QM D rk r):=by
 have e:=UD hD tk r h
 rw [← e]
 unfold Qb4
 split
 ·rename_i x hx;rw [hx];rfl
 ·rename_i xs hne
  show TV.tup ((Gf rk r).map _)=_
  cases hl:Gf rk r with
  | nil=>rfl
  | cons a l =>
   cases l with
   | nil=>exact (hne a hl).elim
   | cons b l=>rfl
theorem QB (hD:D.OK) {P:Program} {tb:List (Nat×KF U)} {W:Wd} (h:AllT (Yb D W P) tb):Q0v W D P (Qnk D tb):=by
 intro f args kr a hk ho
 unfold Qnk at hk
 split at hk
 ·rename_i kf hf
  split at hk
  ·rename_i v hv;cases hk
   obtain ⟨h1,h2⟩:=h.get hf
   refine ⟨QM D kf.args v,Q0l hD hv,fun tk=>?_⟩
   show FunW W P f _ ((Qb4 kf.res a).er D tk)
   rw [Qfc hD tk a h1]
   exact h2 v a ho
  ·cases hk
 ·cases hk
def Qiv:Qr1 U:=fun _ _ _=>none
theorem Q8h {W:Wd} {P:Program} (m:TMe U):YOK W D P (Qiv (U:=U)) m:=fun L args m xo _ h=>by cases h
def noX:Qr2 U:=fun _ _ _ _=>none
theorem JH {W:Wd} {P:Program}:WO W D P (noX (U:=U)):=fun Y c args m xo _ h=>by cases h
section
variable (D) (C:TCfg U) (K:FuncId→List (TAV U)→Option (KR U)) (X:Qr2 U)
def Qi8 (fn:Func) (H:Hints U) (args:List (TAV U)) (rk:List (AK U)):Option (tup rk):=match Q0m fn.body H with
 | none=>none
 | some (_,tc)=>cond (Nat.ble args.length fn.ntmps) (JK D C K X tc Qiv none (R:=tup rk) (fun s=>Gs X Qiv s none (fun s=>Q9m D C s rk fn.results.toList) fun _ _=>none) (fun v s=>Gs X Qiv s (some v) (fun s=>Q9m D C s rk fn.results.toList) fun _ _=>none) ⟨JD 0 args,⟨[],[],0⟩,fn.ntmps,[]⟩ some fun e s=>match e with
   | .normal=>Gs X Qiv s none (fun s=>Q9m D C s rk fn.results.toList) fun _ _=>none
   | _=>none) none
end
def Qn8 (D:Codec U) (rk:List (AK U)) (r:tup rk) (o:OutM):Prop:=∃ xs m',o=.val (Qh xs) m'∧xs.length=(QM D rk r).length∧∀ (i:Nat) (y:AV),(QM D rk r)[i]?=some y→∃ x,xs[i]?=some x∧∀ V w v,x.rel V w v→y.rel (Yr V.S) w v
theorem FunW.of_p {W:Wd} {P:Program} {f:FuncId} {args:List AV} {rk:List (AK U)} {r:tup rk} (h:CallP W P f args mem0 (Qn8 D rk r)):FunW W P f args (Qh (QM D rk r)):=by
 refine ⟨h.1,fun S w vs hS hWp ha=>(h.2 (Qkx P w S) (Yr S) w vs Z hWp (Qgh hS) Z ha).mono ?_⟩
 rintro e w' ⟨o,⟨xs,m',rfl,hl,hs⟩,v,V',rfl,H,hn,L,hv⟩
 refine ⟨v,V'.S,Z,H.ext,H.le0.S,fun b o h=>⟨?_,H.sz b o h⟩,Qak hl hs hv⟩
 rcases H.sub b o h with h1 | h1 | h1
 ·exact .inl h1
 ·exact .inr h1
 ·exact h1.elim
theorem Q4i:∀ {rk:List (AK U)} {v:tup rk} {x:TAV U},x∈Gf rk v→∃ k∈rk,∃ a:k.Ty,x=GK k a 0
 | [],v,x,h=>by cases h
 | [k],v,x,h=>⟨k,Ci ..,v,CG.1 h⟩
 | k::k2::rk,v,x,h=>by
  have h':x∈GK k v.1 0::Gf (k2::rk) v.2:=h
  rcases Cq.1 h' with e | h2
  ·exact ⟨k,Ci ..,v.1,e⟩
  ·obtain ⟨k',h3,a,e⟩:=Q4i h2
   exact ⟨k',Ch _ h3,a,e⟩
theorem tcall_ok {C:TCfg U} {K:FuncId→List (TAV U)→Option (KR U)} {X:Qr2 U} {P:Program} (hP:P=Tryz.prog) (hT:C.T.OK P) (hD:D.OK) {W:Wd} (hK:Q0v W D P K) (hX:WO W D P X) {f:FuncId} {fn:Func} (hf:P.funcs[f]?=some fn) (hen:Qc P f) {H:Hints U} {args:List (TAV U)} {rk:List (AK U)} {r:tup rk} (h:Qi8 D C K X fn H args rk=some r) :
  FunW W P f (args.map (TAV.er D [])) (Qh (QM D rk r)):=by
 unfold Qi8 at h
 split at h
 ·cases h
 ·rename_i c tc hc
  obtain ⟨hc1,hc2⟩:=WL hc
  cases hl:Nat.ble args.length fn.ntmps with
  | false=>rw [hl] at h;cases h
  | true =>
   rw [hl,C6] at h
   have ho:∀ (s:TSt U) (u:Option Value),Gs X Qiv s u (fun s=>Q9m D C s rk fn.results.toList) (fun _ _=>none)=some r→∀ e,Qn2 u e→∃ o,Qn8 D rk r o∧EndO W P fn 0 e (s.er D) o:=by
    intro s u hend e he
    obtain ⟨s',a1,a2,a3,a4,a5⟩:=WJ hX fn 0 (Q8h s.m) hend
    rcases a5 with ⟨b1,b2⟩ | ⟨v,rfl,b1,b2⟩
    ·obtain ⟨xs,q1,q2,q3⟩:=Qgu (P:=P) hT hD b1
     exact ⟨_,⟨xs,_,Z,q2,q3⟩,b2 e (s'.er D) xs he a2 (ToW.refl _ _ _ _) q1⟩
    ·cases b1
   refine FunW.of_p (Qc9 (m:=⟨[],[],0⟩) hP hT hD hK hX (Q8h _) hf hen hc1 hc2 (C3 hl) (fun E=>To.refl _ _) (Sfx.refl _) h (S:=Qn8 D rk r) (fun e s hs hk=>?_) (fun a hp hex=>?_))
   ·cases e with
    | normal=>exact ho s none hk _ (.inl rfl)
    | ret=>cases hk
    | exit j=>cases hk
    | goto l=>cases hk
    | panic c=>cases hk
    | outgrown=>cases hk
   ·cases hp
    exact ⟨fun s hs e=>ho s none e _ (.inr Z),fun v s hs e=>ho s (some v) e _ Z⟩
theorem YL {C:TCfg U} {K:FuncId→List (TAV U)→Option (KR U)} {X:Qr2 U} {P:Program} (hP:P=Tryz.prog) (hT:C.T.OK P) (hD:D.OK) {W:Wd} (hK:Q0v W D P K) (hX:WO W D P X) {f:FuncId} {fn:Func} (hf:P.funcs[f]?=some fn) (hen:Qc P f) (H:Hints U) (kf:KF U) (hd:kf.res.all JX=true)
  (h:∀ v,Qi8 D C K X fn H (Gf kf.args v) kf.res=kf.m v):Yb D W P f kf:=⟨hd,fun v r hr=>tcall_ok hP hT hD hK hX hf hen ((h v).trans hr)⟩
variable (U) in
structure KP where
 args:List (AK U)
 res:List (AK U)
 pk:PK
 m:tup args→Option (tup res⊕pk.Ty)
end
end
noncomputable section
open Go.RowKit
section
variable (U:Univ)
inductive BX where
 | stc (T:TypeId) (t:U.T)
 | bld (T E:TypeId) (t:U.T)
end
section
variable {U:Univ} (D:Codec U)
@[reducible] def BX.Ty:BX U→Type
 | .stc _ t=>U.R t
 | .bld _ _ t=>List (U.R t)
def BX.n:BX U→Nat
 | .stc _ _=>1
 | .bld _ _ _=>2
def BX.rs:BX U→List Nat
 | .stc _ _=>[0]
 | .bld _ _ _=>[0,1]
def Q5j:(x:BX U)→x.Ty→TMe U
 | .stc T t,v=>⟨[.box 0 T [.grp t v]],[],1⟩
 | .bld T E t,v=>⟨[.box 0 T [.one (.ptr 0 0),.one (.app 1 0)]],[(1,⟨E,t,v,0⟩)],2⟩
def Ql7 (m:TMe U) (i:Nat):(x:BX U)→Option (x.Ty×List Nat)
 | .stc T t=>match Z4 m.es i with
  | some (T',N)=>cond (Nat.beq T' T&&Nat.beq N (U.E t).sz) (match WZ D m.es i 0 N with
   | some xs=>match Q4r D m.tk t xs with
    | some v=>some (v,[i])
    | none=>none
   | none=>none) none
  | none=>none
 | .bld T E t=>match Z4 m.es i with
  | some (T',N)=>cond (Nat.beq T' T&&Nat.beq N 2) (match WZ D m.es i 0 2 with
   | some [.one (.ptr i' off),.one (.app j ver)]=>match cur m.tk j ver with
    | some tok=>cond (Nat.beq i' i&&(Nat.beq off 0&&(Nat.beq tok.E E&&!(Nat.beq E 0)))) (match Gg tok.t t tok.l with
     | some l=>some (l,[i,j])
     | none=>none) none
    | none=>none
   | _=>none) none
  | none=>none
def Qeh (m:TMe U) (i:Nat) (rs:List Nat):(x:BX U)→x.Ty→TMe U
 | .stc _ t,v=>⟨.set i 0 [.grp t v]::m.es,m.tk,m.nx⟩
 | .bld _ E t,v=>⟨.set i 1 [.one (.app (rs.getD 1 0) (QZ m.tk (rs.getD 1 0)))]::m.es,(rs.getD 1 0,⟨E,t,v,QZ m.tk (rs.getD 1 0)⟩)::m.tk,m.nx⟩
def Qml (m:TMe U) (i:Nat) (rs:List Nat):BX U→Bool
 | .stc _ _=>KL rs&&(rs.all (fun j=>Nat.blt j m.nx)&&(Qq8 m.tk i).isNone)
 | .bld _ _ _=>KL rs&&(rs.all (fun j=>Nat.blt j m.nx)&&((Qq8 m.tk i).isNone&&(m.es.all (K8 (rs.getD 1 0))&&!(m.es.any (Ev.hasApp (rs.getD 1 0) (QZ m.tk (rs.getD 1 0)))))))
def GN:(x:BX U)→x.Ty→Nat→Nat→HB
 | .stc T t,v,_,_=>.cells T (((U.E t).enc v).map .d)
 | .bld T E t,v,i,j=>.cells T [.ptr i 0,.app j (U.E t).sz ((U.E t).encL v)]
def GM:(x:BX U)→x.Ty→Nat→List (Nat×Option Tok)
 | .stc _ _,_,_=>[]
 | .bld _ E t,v,j=>[(j,(⟨E,t,v,0⟩:TTok U).erO)]
variable {D}
theorem Qe3 (hD:D.OK) (x:BX U) (v:x.Ty):(Q5j x v).er D=⟨[(0,GN x v 0 1)],GM x v 1,x.n⟩:=by
 cases x with
 | stc T t =>
  show (⟨[(0,.cells T (Jf D [] [It.grp t v]))],[],1⟩:Mem)=_
  rw [Q2k hD];rfl
 | bld T E t=>rfl
theorem Qc5 (ρ:Nat→Nat) (x:BX U) (v:x.Ty) (i j:Nat):(GN x v i j).ren ρ=GN x v (ρ i) (ρ j):=by
 cases x with
 | stc T t =>
  show HB.cells T ((((U.E t).enc v).map CA.d).map (CA.ren ρ))=_
  rw [CI];rfl
 | bld T E t=>rfl
theorem DM {ys:List CA} {n:Nat} (h:ys.length=n):(ys.drop 0).take n=ys:=by
 rw [PB,Pm (by omega)]
theorem Qd3 (hD:D.OK) {m:TMe U} {i:Nat} {x:BX U} {v:x.Ty} {rs:List Nat} (h:Ql7 D m i x=some (v,rs)) :
  (∃ A,Qq8 (m.er D).hp i=some A∧∀ V w o,A.rel V w o→(GN x v i (rs.getD 1 0)).rel V w o)∧(∀ k T,Qq8 (GM x v (rs.getD 1 0)) k=some (some T)→Qq8 (m.er D).tk k=some (some T))∧rs.length=x.n∧rs.getD 0 0=i:=by
 cases x with
 | stc T t =>
  have h':(match Z4 m.es i with
   | some (T',N)=>cond (Nat.beq T' T&&Nat.beq N (U.E t).sz) (match WZ D m.es i 0 N with
    | some xs=>match Q4r D m.tk t xs with
     | some v=>some (v,[i])
     | none=>none
    | none=>none) none
   | none=>none)=some (v,rs):=h
  split at h'
  ·rename_i T' N hb
   cases hc:(Nat.beq T' T&&Nat.beq N (U.E t).sz) with
   | false=>rw [hc] at h';cases h'
   | true =>
    rw [hc,C6] at h'
    obtain ⟨c1,c2⟩:=C0.1 hc
    have e1:=C4 c1
    subst e1
    split at h'
    ·rename_i xs hr
     split at h'
     ·rename_i v' hv;cases h'
      obtain ⟨ys,b1,b2⟩:=Ye hD (tk:=m.tk) hb
      obtain ⟨T2,zs,r1,r2,r3⟩:=Yj hD (tk:=m.tk) hr
      rw [b1] at r1;cases r1
      rw [DM b2] at r3
      refine ⟨⟨_,b1,fun V w o hr=>BW.rel (.cells ?_) hr⟩,(fun k T hk=>by cases hk),rfl,rfl⟩
      rw [r3]
      exact Qc4 (Q2l hD hv)
     ·cases h'
    ·cases h'
  ·cases h'
 | bld T E t =>
  have h':(match Z4 m.es i with
   | some (T',N)=>cond (Nat.beq T' T&&Nat.beq N 2) (match WZ D m.es i 0 2 with
    | some [.one (.ptr i' off),.one (.app j ver)]=>match cur m.tk j ver with
     | some tok=>cond (Nat.beq i' i&&(Nat.beq off 0&&(Nat.beq tok.E E&&!(Nat.beq E 0)))) (match Gg tok.t t tok.l with
      | some l=>some (l,[i,j])
      | none=>none) none
     | none=>none
    | _=>none) none
   | none=>none)=some (v,rs):=h
  split at h'
  ·rename_i T' N hb
   cases hc:(Nat.beq T' T&&Nat.beq N 2) with
   | false=>rw [hc] at h';cases h'
   | true =>
    rw [hc,C6] at h'
    obtain ⟨c1,c2⟩:=C0.1 hc
    have e1:=C4 c1
    have e2:=C4 c2
    subst e1;subst e2
    split at h'
    ·rename_i i' off j ver hr
     split at h'
     ·rename_i tok hcur
      cases hq:(Nat.beq i' i&&(Nat.beq off 0&&(Nat.beq tok.E E&&!(Nat.beq E 0)))) with
      | false=>rw [hq] at h';cases h'
      | true =>
       rw [hq,C6] at h'
       obtain ⟨q1,q23⟩:=C0.1 hq
       obtain ⟨q2,q3⟩:=C0.1 q23
       have f1:=C4 q1
       have f2:=C4 q2
       obtain ⟨q3,q4⟩:=C0.1 q3
       have f3:=C4 q3
       have fN:Nat.beq E 0=false:=by simpa using q4
       subst f1;subst f2
       split at h'
       ·rename_i l hl;cases h'
        obtain ⟨et,el⟩:=YU hl
        subst et
        have el':tok.l=v:=el.symm
        obtain ⟨ys,b1,b2⟩:=Ye hD (tk:=m.tk) hb
        obtain ⟨T2,zs,r1,r2,r3⟩:=Yj hD (tk:=m.tk) hr
        rw [b1] at r1;cases r1
        rw [DM b2] at r3
        have eapp:(TA.app j ver:TA U).er m.tk=.app j (U.E tok.t).sz ((U.E tok.t).encL tok.l):=by
         show (match cur m.tk j ver with
          | some T=>CA.app j (U.E T.t).sz ((U.E T.t).encL T.l)
          | none=>CA.any)=_
         rw [hcur]
        have e4:ys=[.ptr i' 0,.app j (U.E tok.t).sz ((U.E tok.t).encL tok.l)]:=by
         rw [r3]
         show [CA.ptr i' 0,(TA.app j ver:TA U).er m.tk]=_
         rw [eapp]
        refine ⟨⟨_,b1,fun V w o hr=>?_⟩,fun k T hk=>?_,Z,Z⟩
        ·rw [e4,el'] at hr;exact hr
        ·have hk0:Qq8 [(j,(⟨E,tok.t,v,0⟩:TTok U).erO)] k=some (some T):=hk
         rw [K6 fN] at hk0
         have hk':Qq8 [(j,some (⟨E,(U.E tok.t).sz,((U.E tok.t).encL v).length,[]⟩:Tok))] k=some (some T):=hk0
         rw [Q1] at hk'
         split at hk'
         ·rename_i ek;subst ek
          cases hk'
          have hlk:Qq8 m.tk j=some tok:=by
           unfold cur at hcur
           split at hcur
           ·rename_i T0 h0
            cases hq:Nat.beq T0.ver ver with
            | false=>rw [hq] at hcur;cases hcur
            | true=>rw [hq] at hcur;cases hcur;exact h0
           ·cases hcur
          show Qq8 (QI TTok.erO m.tk) j=_
          rw [QN,hlk]
          show some tok.erO=_
          rw [K6 (by rw [f3];exact fN)]
          unfold TTok.er
          rw [f3,el']
         ·cases hk'
       ·cases h'
     ·cases h'
    ·cases h'
  ·cases h'
variable (U) in
structure PF where
 bx:BX U
 args:List (AK U)
 res:List (AK U)
 pk:PK
 m:bx.Ty→tup args→Option ((bx.Ty×tup res)⊕(pk.Ty×bx.Ty))
def Qik (D:Codec U) (bx:BX U) (res:List (AK U)) (pk:PK):(bx.Ty×tup res)⊕(pk.Ty×bx.Ty)→OutM
 | .inl y=>.val (Qh (QM D res y.2)) ((Q5j bx y.1).er D)
 | .inr y=>.die (Q23 pk y.1) ((Q5j bx y.2).er D)
def WV (D:Codec U) (W:Wd) (P:Program) (f:Nat) (pf:PF U):Prop:=(pf.res.all JX=true∧pf.args.all JX=true)∧∀ b v y,pf.m b v=some y→CallO W P f (.one (.ptr 0 0)::QM D pf.args v) ((Q5j pf.bx b).er D) (Qik D pf.bx pf.res pf.pk y)
section
variable (D) (C:TCfg U) (K:FuncId→List (TAV U)→Option (KR U)) (X:Qr2 U)
def Qic (bx:BX U) (res:List (AK U)) (rs:List ResultVar) {α:Type} (s:TSt U):Option ((bx.Ty×tup res)⊕α):=match Q9m D C s res rs with
 | some r=>match Ql7 D s.m 0 bx with
  | some (b,ns)=>cond (Q5i ns bx.rs) (some (.inl (b,r))) none
  | none=>none
 | none=>none
def Qit (bx:BX U) (pk:PK) {α:Type} (v:Value) (s:TSt U):Option (α⊕(pk.Ty×bx.Ty)):=match Qlf pk v with
 | some e=>match Ql7 D s.m 0 bx with
  | some (b,ns)=>cond (Q5i ns bx.rs) (some (.inr (e,b))) none
  | none=>none
 | none=>none
def Qls (fn:Func) (H:Hints U) (bx:BX U) (b:bx.Ty) (args:List (TAV U)) (res:List (AK U)) (pk:PK):Option ((bx.Ty×tup res)⊕(pk.Ty×bx.Ty)):=match Q0m fn.body H with
 | some (_,tc)=>cond (Nat.ble (args.length+1) fn.ntmps) (JK D C K X tc Qiv none (R:=(bx.Ty×tup res)⊕(pk.Ty×bx.Ty)) (fun s=>Gs X Qiv s none (Qic D C bx res fn.results.toList) (Qit D bx pk)) (fun v s=>Gs X Qiv s (some v) (Qic D C bx res fn.results.toList) (Qit D bx pk)) ⟨JD 0 (.one (.ptr 0 0)::args),Q5j bx b,fn.ntmps,[]⟩ some fun e s=>match e with
   | .normal=>Gs X Qiv s none (Qic D C bx res fn.results.toList) (Qit D bx pk)
   | _=>none) none
 | none=>none
end
theorem HRel.trimN {E:Env} {V:Vu} {hp:List (Nat×HB)} {tk:List (Nat×Option Tok)} {w:World} {n:Nat} (H:HRel E V hp tk w) (hh:∀ i B,Qq8 hp i=some B→i < n∧B.below n) (ht:∀ i T,Qq8 tk i=some (some T)→i < n) (h0:E.V0.nx≤n):HRel E { V with nx:=n } hp tk w:=by
 refine ⟨H.ext,⟨h0,H.le0.ι,H.le0.cu,H.le0.κ,H.le0.S,H.le0.cell,H.le0.dk⟩,H.sz,H.sub,?_,H.inj,H.new,?_,?_⟩
 ·intro i B hi
  obtain ⟨h1,h2⟩:=hh i B hi
  obtain ⟨-,o,ho,hB⟩:=H.own i B hi
  refine ⟨h1,o,ho,?_⟩
  cases B with
  | cells T xs=>obtain ⟨vs,h3,h4⟩:=hB;exact ⟨vs,h3,h4.trim h2⟩
  | obj o'=>exact hB
  | loop s p tm nt ps assign body D=>obtain ⟨-,fn,tmps,h3,h4,h5⟩:=hB;exact ⟨h2.1,fn,tmps,h3,h4,fun t x hx=>(h5 t x hx).trim (h2.2 t x hx)⟩
  | mp es clock=>obtain ⟨ents,h3,h4,h5⟩:=hB;exact ⟨ents,h3,h4,fun i k x b hi=>let ⟨v,h6,h7⟩:=h5 i k x b hi;⟨v,h6,h7.trim (h2 _ (Cs hi))⟩⟩
 ·intro i T hi
  obtain ⟨h1,hcu,xs,h2,h3⟩:=H.tok i T hi
  exact ⟨ht i _ hi,hcu,xs,h2,h3⟩
 ·exact H.tki
theorem Qh4 (hD:D.OK) {bx:BX U} {b:bx.Ty} {s:TSt U} (hb:Ql7 D s.m 0 bx=some (b,bx.rs)) {E:Env} {V:Vu} {w:World} (H:HRel E V (s.er D).hp (s.er D).tk w) (h0:E.V0.nx≤bx.n):HRel E { V with nx:=bx.n } ((Q5j bx b).er D).hp ((Q5j bx b).er D).tk w:=by
 obtain ⟨⟨A,a1,a2⟩,a3,-,-⟩:=Qd3 hD hb
 have ecb:GN bx b 0 (bx.rs.getD 1 0)=GN bx b 0 1:=by cases bx <;> rfl
 have ect:GM bx b (bx.rs.getD 1 0)=GM bx b 1:=by cases bx <;> rfl
 rw [ecb] at a2
 rw [ect] at a3
 rw [Qe3 hD]
 have w1:∀ i B,Qq8 [(0,GN bx b 0 1)] i=some B→∃ A,Qq8 (s.er D).hp i=some A∧∀ V w o,A.rel V w o→B.rel V w o:=by
  intro i B hB
  rw [Q1] at hB
  split at hB
  ·rename_i e;subst e;cases hB;exact ⟨A,a1,a2⟩
  ·cases hB
 have w2:∀ i B,Qq8 [(0,GN bx b 0 1)] i=some B→i < bx.n∧B.below bx.n:=by
  intro i B hB
  rw [Q1] at hB
  split at hB
  ·rename_i e;subst e;cases hB
   cases bx with
   | stc T t=>exact ⟨Nat.one_pos,fun x hx=>by obtain ⟨c,_,rfl⟩:=Cw.1 hx;trivial⟩
   | bld T E' t =>
    refine ⟨SK,fun x hx=>?_⟩
    rcases Cq.1 hx with rfl | hx
    ·exact SK
    ·rw [CG.1 hx];exact SC
  ·cases hB
 have w3:∀ i T,Qq8 (GM bx b 1) i=some (some T)→i < bx.n:=by
  intro i T hT
  cases bx with
  | stc T' t=>cases hT
  | bld T' E' t =>
   have hT':Qq8 [(1,(⟨E',t,b,0⟩:TTok U).erO)] i=some (some T):=hT
   rw [Q1] at hT'
   split at hT'
   ·rename_i e;subst e;exact SC
   ·cases hT'
 exact (H.weak w1 fun i T hT=>a3 i T hT).trimN w2 w3 h0
theorem Q4n (x:BX U) (b:x.Ty):(Q5j x b).nx=x.n:=by cases x <;> rfl
def Qn9 (D:Codec U) (bx:BX U) (res:List (AK U)) (pk:PK) (y:(bx.Ty×tup res)⊕(pk.Ty×bx.Ty)) (o:OutM):Prop :=
 ∃ (s:TSt U) (b':bx.Ty),Ql7 D s.m 0 bx=some (b',bx.rs)∧match y with
  | .inl z=>z.1=b'∧∃ xs,o=.val (Qh xs) (s.er D).mem∧xs.length=(QM D res z.2).length∧∀ (i:Nat) (y:AV),(QM D res z.2)[i]?=some y→∃ x,xs[i]?=some x∧∀ V w v,x.rel V w v→y.rel (Yr V.S) w v
  | .inr z=>z.2=b'∧o=.die (Q23 pk z.1) (s.er D).mem
theorem CallO.of_B (hD:D.OK) {W:Wd} {P:Program} {f:FuncId} {args:List AV} {bx:BX U} {b:bx.Ty} {res:List (AK U)} {pk:PK} {y:(bx.Ty×tup res)⊕(pk.Ty×bx.Ty)} (h:CallP W P f args ((Q5j bx b).er D) (Qn9 D bx res pk y)):CallO W P f args ((Q5j bx b).er D) (Qik D bx res pk y):=by
 refine YK h.1 fun E V w vs hP hW H hn ha=>(h.2 E V w vs hP hW H hn ha).mono ?_
 rintro e w' ⟨o,⟨s,b',hb,hy⟩,ho⟩
 have hn':V.nx=bx.n:=hn.trans (Q4n bx b)
 have h0:E.V0.nx≤bx.n:=by rw [← hn'];exact H.le0.nx
 have le:∀ V':Vu,V.Le V' w w'→V.Le { V' with nx:=bx.n } w w':=fun V' L=>⟨Pa hn',L.ι,L.cu,L.κ,L.S,L.cell,L.dk⟩
 cases y with
 | inl z =>
  obtain ⟨rfl,xs,rfl,hl,hs⟩:=hy
  obtain ⟨v,V',rfl,H',hn2,L,hv⟩:=ho
  refine ⟨v,{ V' with nx:=bx.n },Z,Qh4 hD hb H' h0,(Q4n bx _).symm,le V' L,?_⟩
  exact (Qak hl hs hv).mono (Qfd (V:={ V' with nx:=bx.n }))
 | inr z =>
  obtain ⟨rfl,rfl⟩:=hy
  obtain ⟨V',rfl,H',hn2,L⟩:=ho
  exact ⟨{ V' with nx:=bx.n },Z,Qh4 hD hb H' h0,(Q4n bx _).symm,le V' L⟩
theorem encK_data_below {k:AK U} (hk:JX k=true) (v:k.Ty) (m:Nat):(GK k v 0).belowB m=true:=UE k v 0 (fun i hi=>by cases k <;> first | (cases hk;done) | (cases hi)) (fun i hi=>by cases k <;> first | (cases hk;done) | (cases hi))
theorem XT {C:TCfg U} {K:FuncId→List (TAV U)→Option (KR U)} {X:Qr2 U} {P:Program} (hP:P=Tryz.prog) (hT:C.T.OK P) (hD:D.OK) {W:Wd} (hK:Q0v W D P K) (hX:WO W D P X) {f:FuncId} {fn:Func} (hf:P.funcs[f]?=some fn) (hen:Qc P f) (H:Hints U) (pf:PF U) (hd:pf.res.all JX=true) (hd2:pf.args.all JX=true)
  (h:∀ b v,Qls D C K X fn H pf.bx b (Gf pf.args v) pf.res pf.pk=pf.m b v):WV D W P f pf:=by
 refine ⟨⟨hd,hd2⟩,fun b v y hy=>?_⟩
 have h:=(h b v).trans hy
 unfold Qls at h
 split at h
 ·rename_i c tc hc
  obtain ⟨hc1,hc2⟩:=WL hc
  cases l1:Nat.ble ((Gf pf.args v).length+1) fn.ntmps with
  | false=>rw [l1] at h;cases h
  | true =>
   rw [l1,C6] at h
   have ho:∀ (s:TSt U) (u:Option Value),Gs X Qiv s u (Qic D C pf.bx pf.res fn.results.toList) (Qit D pf.bx pf.pk)=some y→∀ e,Qn2 u e→∃ o,Qn9 D pf.bx pf.res pf.pk y o∧EndO W P fn (Q5j pf.bx b).nx e (s.er D) o:=by
    intro s u hend e he
    obtain ⟨s',a1,a2,a3,a4,a5⟩:=WJ hX fn (Q5j pf.bx b).nx (Q8h s.m) hend
    rcases a5 with ⟨b1,b2⟩ | ⟨pv,rfl,b1,b2⟩
    ·unfold Qic at b1
     split at b1
     ·rename_i r hr
      split at b1
      ·rename_i b' ns hb
       cases hq:Q5i ns pf.bx.rs with
       | false=>rw [hq] at b1;cases b1
       | true =>
        rw [hq] at b1;cases b1
        obtain ⟨xs,q1,q2,q3⟩:=Qgu (P:=P) hT hD hr
        have hns:=Gr hq
        subst hns
        exact ⟨_,⟨s',b',hb,Z,xs,Z,q2,q3⟩,b2 e (s'.er D) xs he a2 (ToW.refl _ _ _ _) q1⟩
      ·cases b1
     ·cases b1
    ·unfold Qit at b1
     split at b1
     ·rename_i ev hev
      split at b1
      ·rename_i b' ns hb
       cases hq:Q5i ns pf.bx.rs with
       | false=>rw [hq] at b1;cases b1
       | true =>
        rw [hq] at b1;cases b1
        have ee:=Qgv hev
        subst ee
        have hns:=Gr hq
        subst hns
        exact ⟨_,⟨s',b',hb,Z,Z⟩,b2 e (s'.er D) he a2 (ToW.refl _ _ _ _)⟩
      ·cases b1
     ·cases b1
   have hcall:=Qc9 (m:=Q5j pf.bx b) hP hT hD hK hX (Q8h _) hf hen hc1 hc2 (show (TAV.one (TA.ptr 0 0)::Gf pf.args v).length≤fn.ntmps from C3 l1) (fun E=>To.refl _ _) (Sfx.refl _) h (S:=Qn9 D pf.bx pf.res pf.pk y) (fun e s hs hk=>by
     cases e with
     | normal=>exact ho s none hk _ (.inl rfl)
     | ret=>cases hk
     | exit j=>cases hk
     | goto l=>cases hk
     | panic c=>cases hk
     | outgrown=>cases hk) (fun a hp hex=>by
     cases hp
     exact ⟨fun s hs e=>ho s none e _ (.inr Z),fun v s hs e=>ho s (some v) e _ Z⟩)
   have hargs:(TAV.one (TA.ptr 0 0)::Gf pf.args v).map (TAV.er D (Q5j pf.bx b).tk)=.one (.ptr 0 0)::QM D pf.args v:=by
    rw [CF]
    show AV.one (.ptr 0 0)::_=_
    rw [UD hD (Q5j pf.bx b).tk v hd2]
   rw [hargs] at hcall
   exact CallO.of_B hD hcall
 ·cases h
theorem Qas (hD:D.OK) (ρ:Nat→Nat) {rk:List (AK U)} (hk:rk.all JX=true) (v:tup rk):(QM D rk v).map (AV.ren ρ)=QM D rk v:=by
 unfold QM
 rw [CI]
 refine Cx fun x hx=>?_
 obtain ⟨k,h1,a,rfl⟩:=Q4i hx
 have hk':=Cf.1 hk k h1
 cases k with
 | app i e t=>cases hk'
 | ptr i o=>cases hk'
 | any=>cases hk'
 | stc t =>
  have key:∀ x:U.R t,AV.ren ρ (AV.agg (Jf D [] [It.grp t x]))=AV.agg (Jf D [] [It.grp t x]):=fun x=>by
   rw [Q2k hD]
   show AV.agg ((((U.E t).enc x).map CA.d).map (CA.ren ρ))=_
   rw [CI];rfl
  exact key a
 | int k=>rfl
 | bool=>rfl
 | str=>rfl
 | sl t=>rfl
theorem res_ren (ρ:Nat→Nat) (xs:List AV) (h:xs.map (AV.ren ρ)=xs):(Qh xs).ren ρ=Qh xs:=by
 match xs,h with
 | [],h=>rfl
 | [x],h =>
  have:x.ren ρ=x:=by injection h
  show TV.v (x.ren ρ)=.v x
  rw [this]
 | x::y::l,h =>
  show TV.tup ((x::y::l).map (AV.ren ρ))=.tup (x::y::l)
  rw [h]
section
variable (D)
def Ql5 (tb:List (Nat×PF U)):Qr2 U:=fun _ c args m=>match c with
 | .fn f=>match Qq8 tb f,args with
  | some pf,.one (.ptr i off)::rest=>cond (Nat.beq off 0) (match Ql7 D m i pf.bx,YR m.tk rest with
   | some (b,rs),some rest'=>cond (Qml m i rs pf.bx) (match Qe1 D pf.args rest' with
    | some v=>some ⟨fun k d=>Option.bind (pf.m b v) (Sum.elim (fun r=>k (Qb4 pf.res r.2) (Qeh m i rs pf.bx r.1)) fun e=>d (Q23 pf.pk e.1) (Qeh m i rs pf.bx e.2))⟩
    | none=>none) none
   | _,_=>none) none
  | _,_=>none
 | _=>none
end
def JT {α:Type} (rs:List Nat) (l:List (Nat×α)):List (Nat×α):=l.filter fun p=>!(rs.contains p.1)
theorem Xi {α:Type} (rs:List Nat):∀ (l:List (Nat×α)) (i:Nat),Qq8 (JT rs l) i=if i∈rs then none else Qq8 l i
  | [],i=>by unfold JT;simp [Qq8]
  | (k,x)::l,i=>by
    have ih:=Xi rs l i
    unfold JT at ih ⊢
    rw [CE]
    by_cases hk:k∈rs
    · have:(!(rs.contains (k,x).1))=false:=by simp [hk]
      rw [this,C5 (by simp),ih]
      by_cases hi:i∈rs
      · rw [Cd hi,Cd hi]
      · rw [C5 hi,C5 hi,Q1,C5 (fun e=>hi (by rw [← e];exact hk))]
    · have:(!(rs.contains (k,x).1))=true:=by simp [hk]
      rw [this,Cd rfl,Q1,ih,Q1]
      by_cases e:k=i
      · rw [Cd e,Cd e,C5 (by rw [← e];exact hk)]
      · rw [C5 e,C5 e]
theorem Q9h {hp:List (Nat×HB)}:∀ {l:List (Nat×HB)},(∀ p∈l,Qq8 hp p.1=some p.2)→hpLe hp l
  | [],h=>trivial
  | (i,x)::l,h=>⟨⟨x,h _ (Ci ..),.refl _⟩,Q9h fun p hp=>h p (Ch _ hp)⟩
theorem setL_whole {zs ys:List CA} (h:zs.length=ys.length):setL zs 0 ys=ys:=by
 rw [Q83 ys zs 0 (by omega),List.take_zero,CU,Sk (by omega),Cy]
theorem encL_below {ks:List (AK U)} (hk:ks.all JX=true) (v:tup ks) (n:Nat):∀ y∈QM D ks v,y.below n:=by
 intro y hy
 obtain ⟨x,hx,rfl⟩:=Cw.1 hy
 obtain ⟨k,h1,a,rfl⟩:=Q4i hx
 exact Xt _ (encK_data_below (Cf.1 hk k h1) a n)
theorem wr_ok (hD:D.OK) {m:TMe U} {i:Nat} {x:BX U} {b:x.Ty} {rs:List Nat} (h:Ql7 D m i x=some (b,rs)) (hk:Qml m i rs x=true) (b':x.Ty) :
  (∀ k B,Qq8 ((Qeh m i rs x b').er D).hp k=some B→(k=i∧∀ V w o,(GN x b' i (rs.getD 1 0)).rel V w o→B.rel V w o)∨(k∉rs∧∃ A,Qq8 (m.er D).hp k=some A∧∀ V w o,A.rel V w o→B.rel V w o)) ∧
  (∀ k T,Qq8 ((Qeh m i rs x b').er D).tk k=some (some T)→Qq8 (GM x b' (rs.getD 1 0)) k=some (some T)∨(k∉rs∧Qq8 (m.er D).tk k=some (some T)))∧SfM m (Qeh m i rs x b')∧(Qeh m i rs x b').nx=m.nx:=by
 cases x with
 | stc T t =>
  have h':(match Z4 m.es i with
   | some (T',N)=>cond (Nat.beq T' T&&Nat.beq N (U.E t).sz) (match WZ D m.es i 0 N with
    | some xs=>match Q4r D m.tk t xs with
     | some v=>some (v,[i])
     | none=>none
    | none=>none) none
   | none=>none)=some (b,rs):=h
  split at h'
  ·rename_i T' N hb
   cases hc:(Nat.beq T' T&&Nat.beq N (U.E t).sz) with
   | false=>rw [hc] at h';cases h'
   | true =>
    rw [hc,C6] at h'
    obtain ⟨c1,c2⟩:=C0.1 hc
    have e1:=C4 c1
    have e2:=C4 c2
    subst e1
    split at h'
    ·split at h'
     ·cases h'
      obtain ⟨ys,b1,b2⟩:=Ye hD (tk:=m.tk) hb
      have hk':(KL [i]&&([i].all (fun j=>Nat.blt j m.nx)&&(Qq8 m.tk i).isNone))=true:=hk
      obtain ⟨k1,k2⟩:=C0.1 hk'
      obtain ⟨k2,Qqd⟩:=C0.1 k2
      have hrow:∀ v:U.R t,Jf D m.tk [It.grp t v]=((U.E t).enc v).map .d:=fun v=>Q2k hD m.tk t v
      refine ⟨fun k B hB=>?_,fun k T hT=>?_,⟨⟨[_],Z⟩,⟨[],Z⟩,Ck _⟩,Z⟩
      ·have hB':Qq8 (match Qq8 (Qg D m.tk m.es) i with
        | some (.cells T ys)=>(i,.cells T (setL ys 0 (Jf D m.tk [It.grp t b'])))::Qg D m.tk m.es
        | _=>Qg D m.tk m.es) k=some B:=hB
       rw [b1] at hB'
       dsimp only at hB'
       rw [Q1] at hB'
       split at hB'
       ·rename_i ek
        left
        refine ⟨ek.symm,fun V w o hr=>?_⟩
        cases hB'
        rw [setL_whole (by rw [Zl hD,b2,e2];rfl),hrow b']
        exact hr
       ·rename_i ek
        right
        exact ⟨fun hm=>ek (CG.1 hm).symm,B,hB',fun _ _ _ h=>h⟩
      ·right
       refine ⟨fun hm=>?_,hT⟩
       rw [CG.1 hm] at hT
       have hT':Qq8 (QI TTok.erO m.tk) i=some (some T):=hT
       rw [QN] at hT'
       cases hz:Qq8 m.tk i with
       | none=>rw [hz] at hT';cases hT'
       | some z=>rw [hz] at Qqd;cases Qqd
     ·cases h'
    ·cases h'
  ·cases h'
 | bld T E t =>
  have h0:=h
  have h':(match Z4 m.es i with
   | some (T',N)=>cond (Nat.beq T' T&&Nat.beq N 2) (match WZ D m.es i 0 2 with
    | some [.one (.ptr i' off),.one (.app j ver)]=>match cur m.tk j ver with
     | some tok=>cond (Nat.beq i' i&&(Nat.beq off 0&&(Nat.beq tok.E E&&!(Nat.beq E 0)))) (match Gg tok.t t tok.l with
      | some l=>some (l,[i,j])
      | none=>none) none
     | none=>none
    | _=>none) none
   | none=>none)=some (b,rs):=h
  split at h'
  ·rename_i T' N hb
   cases hc:(Nat.beq T' T&&Nat.beq N 2) with
   | false=>rw [hc] at h';cases h'
   | true =>
    rw [hc,C6] at h'
    obtain ⟨c1,c2⟩:=C0.1 hc
    have e1:=C4 c1
    have e2:=C4 c2
    subst e1;subst e2
    split at h'
    ·rename_i i' off j ver hr
     split at h'
     ·rename_i tok hcur
      cases hq:(Nat.beq i' i&&(Nat.beq off 0&&(Nat.beq tok.E E&&!(Nat.beq E 0)))) with
      | false=>rw [hq] at h';cases h'
      | true =>
       rw [hq,C6] at h'
       obtain ⟨q1,q23⟩:=C0.1 hq
       obtain ⟨q2,q3⟩:=C0.1 q23
       have f1:=C4 q1
       have f2:=C4 q2
       subst f1;subst f2
       split at h'
       ·cases h'
        have hk':(KL [i',j]&&([i',j].all (fun j=>Nat.blt j m.nx)&&((Qq8 m.tk i').isNone&&(m.es.all (K8 j)&&!(m.es.any (Ev.hasApp j (QZ m.tk j)))))))=true:=hk
        obtain ⟨k1,k2⟩:=C0.1 hk'
        obtain ⟨k2,Qqd⟩:=C0.1 k2
        obtain ⟨Qqd,k4⟩:=C0.1 Qqd
        obtain ⟨k4,k5⟩:=C0.1 k4
        have hij:i' ≠ j:=fun e=>by
         have:=WB k1
         rw [e] at this
         simp at this
        obtain ⟨tk',htk'⟩:∃ tk',tk'=(j,(⟨E,t,b',QZ m.tk j⟩:TTok U))::m.tk:=⟨_,rfl⟩
        obtain ⟨ys,b1,b2⟩:=Ye hD (tk:=tk') hb
        obtain ⟨T2,zs,r1,r2,r3⟩:=Yj hD (tk:=tk') hr
        rw [b1] at r1;cases r1
        rw [DM b2] at r3
        have eapp:(TA.app j (QZ m.tk j):TA U).er tk'=.app j (U.E t).sz ((U.E t).encL b'):=by
         show (match cur tk' j (QZ m.tk j) with
          | some T=>CA.app j (U.E T.t).sz ((U.E T.t).encL T.l)
          | none=>CA.any)=_
         rw [htk',Zn,Cd rfl,Cd rfl]
        have hst:=YT (D:=D) (tk:=m.tk) (tk':=tk') (es:=m.es) (by
         rw [htk']
         exact UH fun hp=>by
          have:m.es.any (Ev.hasApp j (QZ m.tk j))=true:=hp
          have k5':(!(m.es.any (Ev.hasApp j (QZ m.tk j))))=true:=k5
          rw [this] at k5';cases k5')
        refine ⟨fun k B hB=>?_,fun k T hT=>?_,⟨⟨[_],Z⟩,⟨[_],Z⟩,Ck _⟩,Z⟩
        ·have hB':Qq8 (match Qq8 (Qg D tk' m.es) i' with
          | some (.cells T ys)=>(i',.cells T (setL ys 1 (Jf D tk' [It.one (.app j (QZ m.tk j))])))::Qg D tk' m.es
          | _=>Qg D tk' m.es) k=some B:=by rw [htk'];exact hB
         rw [b1] at hB'
         dsimp only at hB'
         rw [Q1] at hB'
         split at hB'
         ·rename_i ek
          left
          refine ⟨ek.symm,fun V w o hr=>?_⟩
          cases hB'
          have e5:setL ys 1 (Jf D tk' [It.one (.app j (QZ m.tk j))])=[.ptr i' 0,.app j (U.E t).sz ((U.E t).encL b')]:=by
           rw [r3]
           show setL [CA.ptr i' 0,(TA.app j ver:TA U).er tk'] 1 [(TA.app j (QZ m.tk j):TA U).er tk']=_
           rw [eapp];rfl
          rw [e5]
          exact hr
         ·rename_i ek
          right
          have hkj:k ≠ j:=fun e=>by
           rw [e,Q66 (show m.es.all (K8 j)=true from k4)] at hB'
           cases hB'
          have ow:=hst k
          rw [hB'] at ow
          cases hA:Qq8 (Qg D m.tk m.es) k with
          | none=>rw [hA] at ow;exact ow.elim
          | some A =>
           rw [hA] at ow
           refine ⟨fun hm=>?_,A,hA,fun V w o hr=>BW.rel ow hr⟩
           rcases Cq.1 hm with e | hm
           ·exact ek e.symm
           ·exact hkj (CG.1 hm)
        ·have hT':Qq8 (QI TTok.erO ((j,(⟨E,t,b',QZ m.tk j⟩:TTok U))::m.tk)) k=some (some T):=hT
         have hT2:Qq8 ((j,(⟨E,t,b',QZ m.tk j⟩:TTok U).erO)::QI TTok.erO m.tk) k=some (some T):=hT'
         rw [Q1] at hT2
         split at hT2
         ·rename_i ek
          left
          rw [← hT2]
          show Qq8 [(j,_)] k=_
          rw [Q1,Cd ek];rfl
         ·rename_i ek
          right
          refine ⟨fun hm=>?_,hT2⟩
          rcases Cq.1 hm with e | hm
          ·rw [e,QN] at hT2
           cases hz:Qq8 m.tk i' with
           | none=>rw [hz] at hT2;cases hT2
           | some z =>
            have k3':(Qq8 m.tk i').isNone=true:=Qqd
            rw [hz] at k3';cases k3'
          ·exact ek (CG.1 hm).symm
       ·cases h'
     ·cases h'
    ·cases h'
  ·cases h'
theorem okB_ok {m:TMe U} {i:Nat} {rs:List Nat} {x:BX U} (h:Qml m i rs x=true):rs.Nodup∧∀ j∈rs,j < m.nx:=by
 have key:KL rs=true∧rs.all (fun j=>Nat.blt j m.nx)=true:=by
  cases x with
  | stc T t =>
   have h':(KL rs&&(rs.all (fun j=>Nat.blt j m.nx)&&(Qq8 m.tk i).isNone))=true:=h
   obtain ⟨k1,k2⟩:=C0.1 h'
   exact ⟨k1,(C0.1 k2).1⟩
  | bld T E t =>
   have h':(KL rs&&(rs.all (fun j=>Nat.blt j m.nx)&&((Qq8 m.tk i).isNone&&(m.es.all (K8 (rs.getD 1 0))&&!(m.es.any (Ev.hasApp (rs.getD 1 0) (QZ m.tk (rs.getD 1 0))))))))=true:=h
   obtain ⟨k1,k2⟩:=C0.1 h'
   exact ⟨k1,(C0.1 k2).1⟩
 exact ⟨WB key.1,fun j hj=>C3 (Cf.1 key.2 j hj)⟩
theorem cbox_below (x:BX U) (b:x.Ty):hpBelow x.n [(0,GN x b 0 1)]:=by
 cases x with
 | stc T t=>exact ⟨Nat.one_pos,fun x hx=>by obtain ⟨c,_,rfl⟩:=Cw.1 hx;trivial,trivial⟩
 | bld T E t =>
  refine ⟨SK,fun x hx=>?_,trivial⟩
  rcases Cq.1 hx with rfl | hx
  ·exact SK
  ·rw [CG.1 hx];exact SC
theorem ctok_below (x:BX U) (b:x.Ty):tkBelow x.n (GM x b 1):=by
 cases x with
 | stc T t=>trivial
 | bld T E t=>exact ⟨SC,trivial⟩
theorem Q87 (x:BX U) {rs:List Nat} (hl:rs.length=x.n) (n:Nat):Ki rs n 0=rs.getD 0 0∧rs.getD 0 0∈rs∧∀ z:x.Ty,Js (Ki rs n) [(0,GN x z 0 1)]=[(rs.getD 0 0,GN x z (rs.getD 0 0) (rs.getD 1 0))]∧JV (Ki rs n) (GM x z 1)=GM x z (rs.getD 1 0)∧∀ (k:Nat) (T:Option Tok),Qq8 (GM x z (rs.getD 1 0)) k=some T→k∈rs:=by
 cases x with
 | stc T t =>
  match rs,hl with
  | [q],_ =>
   refine ⟨rfl,Ci ..,fun z=>⟨?_,rfl,fun k T h=>by cases h⟩⟩
   show [(q,(GN (BX.stc T t) z 0 1).ren _)]=_
   rw [Qc5];rfl
 | bld T E t =>
  match rs,hl with
  | [q,q2],_ =>
   refine ⟨Z,Ci ..,fun z=>⟨?_,Z,fun k T h=>?_⟩⟩
   ·show [(q,(GN (BX.bld T E t) z 0 1).ren _)]=_
    rw [Qc5];rfl
   ·have h':Qq8 [(q2,(⟨E,t,z,0⟩:TTok U).erO)] k=some T:=h
    rw [Q1] at h'
    split at h'
    ·rename_i e;rw [← e];exact Ch _ (Ci ..)
    ·cases h'
theorem ctok_le (x:BX U) (b:x.Ty) (j:Nat) (r:List (Nat×Option Tok)):tkLe (GM x b j++r) (GM x b j):=by
 cases x with
 | stc T t=>trivial
 | bld T E t=>exact ⟨fun T hT=>by show Qq8 ((j,_)::_) _=_;rw [Q1,Cd rfl,hT],trivial⟩
def JJ {α:Type}:List (Nat×α)→List (Nat×α)
  | []=>[]
  | (k,x)::l=>(k,x)::QD k (JJ l)
theorem GG {α:Type}:∀ (l:List (Nat×α)) (i:Nat),Qq8 (JJ l) i=Qq8 l i
  | [],i=>rfl
  | (k,x)::l,i=>by
    show Qq8 ((k,x)::QD k (JJ l)) i=_
    rw [Jo,Q1,Q1,GG l i]
theorem UB {α:Type}:∀ (l:List (Nat×α)),∀ p∈JJ l,Qq8 l p.1=some p.2
  | [],p,h=>by cases h
  | (k,x)::l,p,h=>by
    rcases Cq.1 h with e | h
    · rw [e,Q1,Cd rfl]
    · obtain ⟨h1,h2⟩:=PI.1 h
      have hne:p.1 ≠ k:=Ke (by simpa using h2)
      rw [Q1,C5 (fun e=>hne e.symm)]
      exact UB l p h1
theorem Qen {tk:List (Nat×Option Tok)}:∀ {l:List (Nat×Option Tok)},(∀ p∈l,Qq8 tk p.1=some p.2)→tkLe tk l
  | [],h=>trivial
  | (i,x)::l,h=>⟨fun T e=>by rw [h _ (Ci ..),e],Qen fun p hp=>h p (Ch _ hp)⟩
theorem call_box {W:Wd} {P:Program} (hD:D.OK) {f:FuncId} {bx:BX U} {b:bx.Ty} {args0:List AV} {m:TMe U} {i:Nat} {rs:List Nat} {o:OutM} (hrd:Ql7 D m i bx=some (b,rs)) (hok:Qml m i rs bx=true) (ha:∀ ρ:Nat→Nat,args0.map (AV.ren ρ)=args0) (hb:∀ y∈args0,y.below bx.n)
    (hc:CallO W P f (.one (.ptr 0 0)::args0) ((Q5j bx b).er D) o) (hn:o.m.nx=bx.n):CallO W P f (.one (.ptr i 0)::args0) (m.er D) (o.ren (Ki rs m.nx) (JJ (JT rs (m.er D).hp)) (JJ (JT rs (m.er D).tk)) m.nx):=by
  obtain ⟨hnd,hlt⟩:=okB_ok hok
  obtain ⟨⟨A,a1,a2⟩,a3,a4,a5⟩:=Qd3 hD hrd
  obtain ⟨ρ0,him,ρb⟩:=Q87 bx a4 m.nx
  rw [a5] at ρ0 him ρb
  obtain ⟨r1,r2,r3⟩:=ρb b
  rw [Qe3 hD] at hc
  have hren:=CallO.ren (n:=m.nx) (nx2:=m.nx) (hp:=[(i,GN bx b i (rs.getD 1 0))]++JT rs (m.er D).hp) (tk:=GM bx b (rs.getD 1 0)++JT rs (m.er D).tk) (hpF:=JJ (JT rs (m.er D).hp)) (tkF:=JJ (JT rs (m.er D).tk)) rs hc
    (by
      rw [r1]
      exact Q9h fun p hp=>by rw [CG.1 hp];show Qq8 ((i,_)::_) i=_;rw [Q1,Cd rfl])
    (by rw [r2];exact ctok_le _ _ _ _)
    (Q9h fun p hp=>by
      have h1:=UB _ p hp
      show Qq8 ((i,_)::JT rs (m.er D).hp) p.1=_
      have hni:p.1 ≠ i:=fun e=>by
        rw [Xi,e,Cd him] at h1;cases h1
      rw [Q1,C5 (fun e=>hni e.symm)];exact h1)
    (Qen fun p hp=>by
      have h1:=UB _ p hp
      have hni:p.1∉rs:=fun e=>by rw [Xi,Cd e] at h1;cases h1
      rw [U3]
      cases hc:Qq8 (GM bx b (rs.getD 1 0)) p.1 with
      | none=>exact h1
      | some x=>exact (hni (r3 _ _ hc)).elim)
    a4 hnd hlt
    (fun k B hB hm=>by rw [GG,Xi,Cd hm] at hB;cases hB)
    (fun k T hT hm=>by rw [GG,Xi,Cd hm] at hT;cases hT)
    (cbox_below _ _) (ctok_below _ _)
    (fun y hy=>by
      rcases Cq.1 hy with rfl | hy
      · show 0 < bx.n;cases bx <;> first | exact Nat.one_pos | exact SK
      · exact hb y hy)
    (by rw [hn];exact Ck _) (by rw [hn];exact Nat.add_comm _ _)
  have eargs:((AV.one (.ptr 0 0))::args0).map (AV.ren (Ki rs m.nx))=.one (.ptr i 0)::args0:=by
    rw [CF,ha]
    show AV.one (.ptr (Ki rs m.nx 0) 0)::args0=_
    rw [ρ0]
  rw [eargs] at hren
  refine CallO.pre (m0:=⟨[(i,GN bx b i (rs.getD 1 0))]++JT rs (m.er D).hp,GM bx b (rs.getD 1 0)++JT rs (m.er D).tk,m.nx⟩) (fun k B hB=>?_) (fun k T hT=>?_) Z hren
  · have hB':Qq8 ((i,GN bx b i (rs.getD 1 0))::JT rs (m.er D).hp) k=some B:=hB
    rw [Q1] at hB'
    split at hB'
    · rename_i e;subst e;cases hB';exact ⟨A,a1,a2⟩
    · rw [Xi] at hB'
      split at hB'
      · cases hB'
      · exact ⟨B,hB',fun _ _ _ h=>h⟩
  · have hT':Qq8 (GM bx b (rs.getD 1 0)++JT rs (m.er D).tk) k=some (some T):=hT
    rw [U3] at hT'
    split at hT'
    · rename_i x hx;cases hT';exact a3 k T hx
    · rw [Xi] at hT'
      split at hT'
      · cases hT'
      · exact hT'
theorem Kg (hD:D.OK) {P:Program} {tb:List (Nat×PF U)} {W:Wd} (h:AllT (WV D W P) tb):WO W D P (Ql5 D tb):=by
 intro Y c args m xo hY hx
 unfold Ql5 at hx
 split at hx
 ·rename_i f
  split at hx
  ·rename_i pf i off rest hpf
   cases hoff:Nat.beq off 0 with
   | false=>rw [hoff] at hx;cases hx
   | true =>
    rw [hoff,C6] at hx
    have eoff:=C4 hoff
    subst eoff
    split at hx
    ·rename_i b rs rest' hrd hs
     cases hok:Qml m i rs pf.bx with
     | false=>rw [hok] at hx;cases hx
     | true =>
      rw [hok,C6] at hx
      split at hx
      ·rename_i v hv;cases hx
       obtain ⟨⟨hd1,hd2⟩,hm⟩:=h.get hpf
       intro β k d r hr
       obtain ⟨y,hy,hk⟩:=YW (show Option.bind _ _=some r from hr)
       have hc:=hm b v y hy
       have hn:(Qik D pf.bx pf.res pf.pk y).m.nx=pf.bx.n:=by
        cases y with
        | inl y=>exact Q4n _ _
        | inr y=>exact Q4n _ _
       have call:=call_box hD hrd hok (fun ρ=>Qas hD ρ hd2 v) (encL_below hd2 v _) hc hn
       obtain ⟨-,-,a4,a5⟩:=Qd3 hD hrd
       obtain ⟨-,-,ρb⟩:=Q87 pf.bx a4 m.nx
       rw [a5] at ρb
       have hargs:∀ V w vs,argsRel V w ((TAV.one (TA.ptr i 0)::rest).map (TAV.er D m.tk)) vs→argsRel V w (AV.one (.ptr i 0)::QM D pf.args v) vs:=by
        intro V w vs ha
        have hsb:=G7 (D:=D) hs (Q0l hD hv m.tk)
        obtain ⟨h3,h4⟩:=hsb.spec
        refine ⟨by rw [ha.1,CF,C2,C2,h3],fun j z hz=>?_⟩
        cases j with
        | zero =>
         cases hz
         exact ha.2 0 _ Z
        | succ j =>
         obtain ⟨x,hx,hxy⟩:=h4 j z hz
         obtain ⟨u,hu,hr⟩:=ha.2 (j+1) x hx
         exact ⟨u,hu,(hxy.rel hr).mono (Qfd (V:=V))⟩
       have post:∀ b':pf.bx.Ty,(Qik D pf.bx pf.res pf.pk y).m=(Q5j pf.bx b').er D→CallO W P f (AV.one (.ptr i 0)::QM D pf.args v) (m.er D) (((Qik D pf.bx pf.res pf.pk y).ren (Ki rs m.nx) (JJ (JT rs (m.er D).hp)) (JJ (JT rs (m.er D).tk)) m.nx).with ((Qeh m i rs pf.bx b').er D))∧SfM m (Qeh m i rs pf.bx b'):=by
        intro b' hb'
        obtain ⟨w1,w2,w3,w4⟩:=wr_ok hD hrd hok b'
        obtain ⟨r1,r2,-⟩:=ρb b'
        have em:((Qik D pf.bx pf.res pf.pk y).ren (Ki rs m.nx) (JJ (JT rs (m.er D).hp)) (JJ (JT rs (m.er D).tk)) m.nx).m=⟨[(i,GN pf.bx b' i (rs.getD 1 0))]++JJ (JT rs (m.er D).hp),GM pf.bx b' (rs.getD 1 0)++JJ (JT rs (m.er D).tk),m.nx⟩:=by
         have e0:∀ o:OutM,(o.ren (Ki rs m.nx) (JJ (JT rs (m.er D).hp)) (JJ (JT rs (m.er D).tk)) m.nx).m=⟨Js (Ki rs m.nx) o.m.hp++JJ (JT rs (m.er D).hp),JV (Ki rs m.nx) o.m.tk++JJ (JT rs (m.er D).tk),m.nx⟩:=fun o=>by cases o <;> rfl
         rw [e0,hb',Qe3 hD]
         show (⟨Js _ [(0,GN pf.bx b' 0 1)]++_,JV _ (GM pf.bx b' 1)++_,_⟩:Mem)=_
         rw [r1,r2]
        refine ⟨CallO.post (fun k B hB=>?_) (fun k T hT=>?_) (by rw [em];exact w4) call,w3⟩
        ·rw [em]
         show ∃ A,Qq8 ((i,GN pf.bx b' i (rs.getD 1 0))::JJ (JT rs (m.er D).hp)) k=some A∧_
         rcases w1 k B hB with ⟨e,hw⟩ | ⟨hn',A,hA,hw⟩
         ·exact ⟨_,by rw [Q1,Cd e.symm],hw⟩
         ·refine ⟨A,?_,hw⟩
          have hki:i ≠ k:=fun e=>by
           obtain ⟨-,him,-⟩:=Q87 pf.bx a4 m.nx
           rw [a5,e] at him
           exact hn' him
          rw [Q1,C5 hki,GG,Xi,C5 hn']
          exact hA
        ·rw [em]
         show Qq8 (GM pf.bx b' (rs.getD 1 0)++JJ (JT rs (m.er D).tk)) k=some (some T)
         rw [U3]
         rcases w2 k T hT with e | ⟨hn',e⟩
         ·rw [e]
         ·obtain ⟨-,-,r3⟩:=ρb b'
          cases hz:Qq8 (GM pf.bx b' (rs.getD 1 0)) k with
          | some x=>exact (hn' (r3 k x hz)).elim
          | none=>dsimp only;rw [GG,Xi,C5 hn'];exact e
       cases y with
       | inl y =>
        obtain ⟨p1,p2⟩:=post y.1 rfl
        refine ⟨.val (Qb4 pf.res y.2) (Qeh m i rs pf.bx y.1),?_,p2,hk⟩
        show CallO W P f ((TAV.one (TA.ptr i 0)::rest).map (TAV.er D m.tk)) (m.er D) (.val ((Qb4 pf.res y.2).er D _) _)
        rw [Qfc hD _ y.2 hd1]
        have e:((Qik D pf.bx pf.res pf.pk (.inl y)).ren (Ki rs m.nx) (JJ (JT rs (m.er D).hp)) (JJ (JT rs (m.er D).tk)) m.nx).with ((Qeh m i rs pf.bx y.1).er D)=.val (Qh (QM D pf.res y.2)) ((Qeh m i rs pf.bx y.1).er D):=by
         show OutM.val ((Qh (QM D pf.res y.2)).ren _) _=_
         rw [res_ren _ _ (Qas hD _ hd1 y.2)]
        rw [e] at p1
        exact CallO.args hargs p1
       | inr y =>
        obtain ⟨p1,p2⟩:=post y.2 rfl
        exact ⟨.die (Q23 pf.pk y.1) (Qeh m i rs pf.bx y.2),CallO.args (o:=.die (Q23 pf.pk y.1) ((Qeh m i rs pf.bx y.2).er D)) hargs p1,p2,hk⟩
      ·cases hx
    ·cases hx
  ·cases hx
 ·cases hx
end
end
noncomputable section
open Go.RowKit
section
variable {U:Univ} (D:Codec U)
def Qpe (f T:Nat):Qr2 U:=fun _ c args m=>match c with
 | .fn g=>match args with
  | [.one (.ptr i off)]=>cond (Nat.beq g f&&Nat.beq off 0) (match Z4 m.es i,WZ D m.es i 0 1 with
   | some (T',N),some [.one (.ptr i' o')]=>cond (Nat.beq i' i&&Nat.beq o' 0) (some ⟨fun k _=>k (.tup []) m⟩) none
   | some (T',N),some [.one (.c (.v (.pointer none)))]=>cond (Nat.beq T' T&&Nat.beq N 2) (some ⟨fun k _=>k (.tup []) ⟨.set i 0 [.one (.ptr i 0)]::m.es,m.tk,m.nx⟩⟩) none
   | _,_=>none) none
  | _=>none
 | _=>none
variable {D}
theorem Q8e {V:Vu} {w:World} {x:AV} {vs:Array Value} (h:argsRel V w [x] vs):∃ u,vs=#[u]∧x.rel V w u:=by
 obtain ⟨u,hu,hr⟩:=h.2 0 x rfl
 refine ⟨u,?_,hr⟩
 apply PC
 intro k
 match k with
 | 0=>rw [hu];rfl
 | k+1=>rw [CZ (by rw [h.1];simp)];simp
theorem ccH_ok (hD:D.OK) {W:Wd} {P:Program} {f T:Nat} (hen:Qc P f)
  (hu:∀ b w,w.cell? ⟨b,0,none⟩=some (.pointer (some ⟨b,0,none⟩))→Calls P f #[.pointer (some ⟨b,0,none⟩)] w fun e w'=>e=.returned (.tuple #[])∧w'=w)
  (hf:∀ b w,w.cell? ⟨b,0,none⟩=some (.pointer none)→w.shape? b=some (T,2)→w.frozen? ⟨b,0,none⟩=false →
   Calls P f #[.pointer (some ⟨b,0,none⟩)] w fun e w'=>e=.returned (.tuple #[])∧w'=w.setCell ⟨b,0,none⟩ (.pointer (some ⟨b,0,none⟩))):WO W D P (Qpe D f T):=by
 intro Y c args m xo hY hx
 unfold Qpe at hx
 split at hx
 ·rename_i g
  split at hx
  ·rename_i i off
   cases hc:(Nat.beq g f&&Nat.beq off 0) with
   | false=>rw [hc] at hx;cases hx
   | true =>
    rw [hc,C6] at hx
    obtain ⟨c1,c2⟩:=C0.1 hc
    have e1:=C4 c1;have e2:=C4 c2
    subst e1 e2
    have first:∀ {x:TA U},WZ D m.es i 0 1=some [.one x]→∃ T ys,Qq8 (m.er D).hp i=some (.cells T ys)∧ys[0]?=(Jf D m.tk [.one x])[0]?:=fun {x} h=>by
     obtain ⟨T,ys,h1,h2,h3⟩:=Yj hD (tk:=m.tk) h
     refine ⟨T,ys,h1,?_⟩
     rw [← h3];simp
    split at hx
    ·rename_i T' N i' o' hb hr
     cases hc2:(Nat.beq i' i&&Nat.beq o' 0) with
     | false=>rw [hc2] at hx;cases hx
     | true =>
      rw [hc2] at hx;cases hx
      obtain ⟨d1,d2⟩:=C0.1 hc2
      have e1:=C4 d1;have e2:=C4 d2
      subst e1 e2
      obtain ⟨T2,ys,hl,hy⟩:=first hr
      intro β k d r hrun
      refine ⟨.val (.tup []) m,?_,SfM.refl m,hrun⟩
      refine YK hen (o:=.val (.tup []) (m.er D)) fun E V w vs hP hW H hn ha=>?_
      obtain ⟨u,rfl,hu'⟩:=Q8e ha
      obtain ⟨-,rfl⟩:i' < V.nx∧u=.pointer (some ⟨V.ι i',0,none⟩):=hu'
      obtain ⟨-,o,ho,vs,rfl,hvs⟩:=H.own _ _ hl
      obtain ⟨u0,hu0,hr0⟩:=hvs.2 0 _ hy
      obtain ⟨-,rfl⟩:i' < V.nx∧u0=.pointer (some ⟨V.ι i',0,none⟩):=hr0
      refine (hu (V.ι i') w (by rw [Ja ho];exact hu0)).mono ?_
      rintro e w' ⟨rfl,rfl⟩
      exact ⟨_,V,rfl,H,hn,Vu.Le.refl _ _,⟨#[],rfl,rfl,fun i y hy=>by cases hy⟩⟩
    ·rename_i T' N hb hr
     cases hc2:(Nat.beq T' T&&Nat.beq N 2) with
     | false=>rw [hc2] at hx;cases hx
     | true =>
      rw [hc2] at hx;cases hx
      obtain ⟨d1,d2⟩:=C0.1 hc2
      have e1:=C4 d1;have e2:=C4 d2
      subst e1 e2
      obtain ⟨T2,ys,hl,hy⟩:=first hr
      obtain ⟨ys2,hl2,hlen⟩:=Ye hD (tk:=m.tk) hb
      obtain ⟨rfl,rfl⟩:T2=T'∧ys=ys2:=by
       have:=hl.symm.trans hl2
       cases this;exact ⟨rfl,rfl⟩
      intro β k d r hrun
      refine ⟨.val (.tup []) ⟨.set i 0 [.one (.ptr i 0)]::m.es,m.tk,m.nx⟩,?_,⟨⟨[_],Z⟩,⟨[],Z⟩,Ck _⟩,hrun⟩
      refine YK hen (o:=.val (.tup []) ((⟨.set i 0 [.one (.ptr i 0)]::m.es,m.tk,m.nx⟩:TMe U).er D)) fun E V w vs hP hW H hn ha=>?_
      obtain ⟨u,rfl,hu'⟩:=Q8e ha
      obtain ⟨hi,rfl⟩:i < V.nx∧u=.pointer (some ⟨V.ι i,0,none⟩):=hu'
      obtain ⟨-,o,ho,vs,rfl,hvs⟩:=H.own _ _ hl
      obtain ⟨u0,hu0,hr0⟩:=hvs.2 0 _ hy
      have e0:u0=.pointer none:=by cases hr0;rfl
      subst e0
      refine (hf (V.ι i) w (by rw [Ja ho];exact hu0) (by have:=hvs.1;unfold World.shape?;rw [ho];simp only [];rw [this,hlen]) (Q1j ho 0)).mono ?_
      rintro e w' ⟨rfl,rfl⟩
      obtain ⟨H1,L1⟩:=H.store hl 0 (x:=.ptr i 0) (u:=.pointer (some ⟨V.ι i,0,none⟩)) ⟨hi,rfl⟩
      refine ⟨_,V,rfl,H1.congr (fun j=>?_) (fun j=>rfl),hn,L1,⟨#[],rfl,rfl,fun i y hy=>by cases hy⟩⟩
      show Qq8 (match Qq8 (Qg D m.tk m.es) i with
       | some (.cells T ys)=>(i,.cells T (setL ys 0 (Jf D m.tk [.one (.ptr i 0)])))::Qg D m.tk m.es
       | _=>Qg D m.tk m.es) j=_
      rw [show Qq8 (Qg D m.tk m.es) i=some (.cells T2 ys) from hl]
      rfl
    ·cases hx
  ·cases hx
 ·cases hx
variable (D)
def Zw {α β:Type}:Option (α⊕β)→Option α
 | some (.inl a)=>some a
 | _=>none
def Qnl (tb:List (Nat×PF U)):Qr2 U:=fun _ c args m=>match c with
 | .fn f=>match Qq8 tb f,args with
  | some pf,.one (.ptr i off)::rest=>cond (Nat.beq off 0) (match Ql7 D m i pf.bx,YR m.tk rest with
   | some (b,rs),some rest'=>cond (Qml m i rs pf.bx) (match Qe1 D pf.args rest' with
    | some v=>some ⟨fun k _=>Option.bind (Zw (pf.m b v)) fun r=>k (Qb4 pf.res r.2) (Qeh m i rs pf.bx r.1)⟩
    | none=>none) none
   | _,_=>none) none
  | _,_=>none
 | _=>none
variable {D}
theorem Kf (hD:D.OK) {P:Program} {tb:List (Nat×PF U)} {W:Wd} (h:AllT (WV D W P) tb):WO W D P (Qnl D tb):=by
 intro Y c args m xo hY hx
 obtain ⟨xo',h',hr⟩:∃ xo',Ql5 D tb Y c args m=some xo'∧∀ ⦃β:Type⦄ (k:TTV U→TMe U→Option β) (d:Value→TMe U→Option β) (r:β),xo.run k d=some r→xo'.run k d=some r:=by
  unfold Qnl at hx
  unfold Ql5
  split at hx
  ·split at hx
   ·rename_i f pf i off rest hlk
    try (dsimp only;rw [hlk];dsimp only)
    cases hoff:Nat.beq off 0 with
    | false=>rw [hoff] at hx;cases hx
    | true =>
     rw [hoff,C6] at hx
     rw [C6]
     split at hx
     ·rename_i b rs rest' hrd hs
      try (rw [hrd,hs];dsimp only)
      cases hok:Qml m i rs pf.bx with
      | false=>rw [hok] at hx;cases hx
      | true =>
       rw [hok,C6] at hx
       rw [C6]
       split at hx
       ·rename_i v hv
        cases hx
        try rw [hv]
        refine ⟨_,Z,fun β k d r hk=>?_⟩
        obtain ⟨y,hy,hk⟩:=YW (show Option.bind (Zw (pf.m b v)) _=some r from hk)
        have hm:pf.m b v=some (.inl y):=by
         unfold Zw at hy
         split at hy
         ·rename_i a ha;cases hy;exact ha
         ·cases hy
        show Option.bind (pf.m b v) _=some r
        rw [hm]
        exact hk
       ·cases hx
     ·cases hx
   ·cases hx
  ·cases hx
 intro β k d r hk
 exact Kg hD h Y c args m xo' hY h' k d r (hr k d r hk)
end
end
noncomputable section
open Go.RowKit Go.Shelf
theorem builder_String {P:Program} {ρ:Ren} (L:Lays.n169 P ρ) (X:Builder.Extra P ρ) (b g cap:Nat) (cur:Array Value) (l:List UInt8) (w:World)
  (hc:w.cell? ⟨b,1,none⟩=some (.slice (some ⟨g,0,none⟩) l.length cap)) (hg:w.heap[g]?=some (.cells cur (ρ.t 5) (0,0))) (hl0:l.length ≠ 0) (hnc:l.length≤cap) (hcm:cap≤maxLen) (hcs:cur.size=cap * 1)
  (hcells:∀ (j:Nat) (x:UInt8),l[j]?=some x→w.cell? ⟨g,j,none⟩=some (.int .u8 x.toNat)) :
  Calls P (ρ.f 169) #[.pointer (some ⟨b,0,none⟩)] w fun e w'=>e=.returned (.string ⟨l.toArray⟩)∧w'=w.drew.freeze ⟨g,0,none⟩ l.length:=by
 have h0:l ≠ []:=by simpa using hl0
 have c1:w.drew.cell? ⟨b,1,none⟩=some (.slice (some ⟨g,0,none⟩) l.length cap):=hc
 have hSD:(Builtin.unsafeSliceData_ #[(ρ.t 37)] (ρ.t 127) #[.slice (some ⟨g,0,none⟩) l.length cap]).run P w.drew=.ok (.pointer (some ⟨g,0,none⟩)) w.drew :=
  Lib.run_unsafeSliceData_row _ _ _ _ _ _ (by omega)
 have hUS:(Builtin.unsafeString_ #[(ρ.t 127),(ρ.t 3)] (ρ.t 9) #[.pointer (some ⟨g,0,none⟩),.int .i64 l.length]).run P w.drew=.ok (.string ⟨l.toArray⟩) (w.drew.freeze ⟨g,0,none⟩ l.length):=by
  refine Lib.run_unsafeString_row w.drew (ρ.t 127) (ρ.t 3) (ρ.t 9) (ρ.t 5) L.t127 X.cellsByte g cur.size (by have hg':w.drew.heap[g]?=some (.cells cur (ρ.t 5) (0,0)):=hg;simp [World.shape?,hg']) l h0 (by omega) (by unfold maxLen at hcm;omega) ?_
  intro j x hx
  rw [Zq,P7]
  exact hcells j x hx
 have mixed:=L.mixed
 have t72:=L.t72;have a72:=L.a72;have z72:=L.z72;have v72:=L.v72;have u72:=run_underlying L.t72
 have t70:=L.t70;have a70:=L.a70;have z70:=L.z70;have v70:=L.v70;have u70:=run_underlying L.t70
 have t37:=L.t37;have a37:=L.a37;have z37:=L.z37;have v37:=L.v37;have u37:=run_underlying L.t37
 have t127:=L.t127;have a127:=L.a127;have z127:=L.z127;have v127:=L.v127;have u127:=run_underlying L.t127
 have t3:=L.t3;have a3:=L.a3;have z3:=L.z3;have v3:=L.v3;have u3:=run_underlying L.t3
 have t9:=L.t9;have a9:=L.a9;have z9:=L.z9;have v9:=L.v9;have u9:=run_underlying L.t9
 have t5:=X.t5;have a5:=X.a5;have z5:=X.z5;have v5:=X.v5;have u5:=run_underlying X.t5
 go_enter L.f169,Body.n169_ntmps ρ
 go_wp2
 go_region_o
 all_goals (go_wp2;go_ret;exact ⟨rfl,rfl⟩)
theorem Q42 (w:World) (g n k:Nat) (hk:k ≠ g):(w.drew.freeze ⟨g,0,none⟩ n).heap[k]?=w.heap[k]?:=by
 unfold World.freeze
 split
 ·rfl
 ·show (w.drew.heap.modify g _)[k]?=_
  rw [Ps,C5 (fun e=>hk e.symm)]
  rfl
theorem Qbr (w:World) (g n:Nat):(w.drew.freeze ⟨g,0,none⟩ n).heap.size=w.heap.size:=by
 unfold World.freeze
 split
 ·rfl
 ·show (w.drew.heap.modify g _).size=_
  rw [Array.size_modify];rfl
theorem frz_cell (w:World) (g n b o:Nat):(w.drew.freeze ⟨g,0,none⟩ n).cell? ⟨b,o,none⟩=w.cell? ⟨b,o,none⟩:=by
 unfold World.freeze
 split
 ·rfl
 ·simp only [World.cell?,Ps]
  by_cases e:g=b
  ·rw [Cd e]
   have e2:w.drew.heap[b]?=w.heap[b]?:=rfl
   rw [e2]
   cases hb:w.heap[b]? with
   | none=>rfl
   | some x=>cases x <;> rfl
  ·rw [C5 e];rfl
theorem frz_dk (w:World) (g n b:Nat) (ds:Option (List Deferred)) (h:w.heap[b]?=some (.deferred ds)):(w.drew.freeze ⟨g,0,none⟩ n).heap[b]?=some (.deferred ds):=by
 unfold World.freeze
 split
 ·exact h
 ·show (w.drew.heap.modify g _)[b]?=_
  rw [Ps]
  by_cases e:g=b
  ·rw [Cd e]
   show Option.map _ w.heap[b]?=_
   rw [h];rfl
  ·rw [C5 e];exact h
theorem frz_os (w:World) (g n:Nat):(w.drew.freeze ⟨g,0,none⟩ n).os=w.os∧(w.drew.freeze ⟨g,0,none⟩ n).tape=w.tape∧(w.drew.freeze ⟨g,0,none⟩ n).output=w.output:=by
 unfold World.freeze
 split <;> exact ⟨rfl,rfl,rfl⟩
theorem HRel.frz {E:Env} {V:Vu} {hp:List (Nat×HB)} {tk:List (Nat×Option Tok)} {w:World} (h:HRel E V hp tk w) {g n:Nat} (hM:E.w0.heap.size≤g∨E.M g)
  (hb:∀ j B,Qq8 hp j=some B→V.ι j ≠ g) (ht:∀ j T,Qq8 tk j=some (some T)→(V.κ j T.n).ownBlock ≠ some g):HRel E V hp tk (w.drew.freeze ⟨g,0,none⟩ n)∧V.Le V w (w.drew.freeze ⟨g,0,none⟩ n):=by
 have L:V.Le V w (w.drew.freeze ⟨g,0,none⟩ n):=⟨Ck _,fun _ _=>rfl,fun _ _=>Ck _,fun _ _ _ _=>rfl,fun _ _ h=>h,fun b o _=>frz_cell w g n b o,fun b o _ ds hd=>frz_dk w g n b ds hd⟩
 obtain ⟨o1,o2,o3⟩:=frz_os w g n
 refine ⟨⟨⟨o1.trans h.ext.os,o2.trans h.ext.tape,o3.trans h.ext.output,by rw [Qbr];exact h.ext.size,fun k hk hkM=>?_⟩,h.le0.trans L,fun b o hs=>by rw [Qbr];exact h.sz b o hs,h.sub,fun i B hi=>?_,h.inj,h.new,fun i T hi=>?_,h.tki⟩,L⟩
 ·have hkg:k ≠ g:=fun e=>by
   subst e
   rcases hM with hM | hM
   ·exact absurd hk (Nat.not_lt.2 hM)
   ·exact hkM hM
  rw [Q42 w g n k hkg];exact h.ext.block k hk hkM
 ·obtain ⟨h1,o,h2,h3⟩:=h.own i B hi
  exact ⟨h1,o,by rw [Q42 w g n _ (hb i B hi)];exact h2,h3.mono L⟩
 ·obtain ⟨h1,h2,xs,h3,h4⟩:=h.tok i T hi
  exact ⟨h1,h2,xs,h3.keepW rfl (D5 h3.1 fun k hk=>Q42 w g n k fun e=>ht i T hi (by rw [hk,e])) L.lx,h4⟩
section
variable {U:Univ} (D:Codec U)
structure BytR (B:BytOf U) where
 rg:List (U.R B.t)→Bool
 ok:∀ l,rg l=true→(U.E B.t).encL l=Qqw (B.sb l)
def Qmi (f E0:Nat) (B:BytOf U) (R:BytR B):Qr2 U:=fun _ c args m=>match c with
 | .fn g=>match args with
  | [.one (.ptr i off)]=>cond (Nat.beq g f&&Nat.beq off 0) (match WZ D m.es i 1 1 with
   | some [.one (.app j ver)]=>match cur m.tk j ver with
    | some T=>match Gg T.t B.t T.l with
     | some l=>cond ((Nat.beq T.E E0&&!(Nat.beq E0 0))&&!(m.es.any (Ev.hasApp j (QZ m.tk j)))) (some ⟨fun k _=>Q7 (cond (R.rg l) (!l.isEmpty) false) (k (.v (.one (.c (.str (B.sb l))))) ⟨m.es,(j,⟨0,B.t,l,QZ m.tk j⟩)::m.tk,m.nx⟩)⟩) none
     | none=>none
    | none=>none
   | _=>none) none
  | _=>none
 | _=>none
variable {D}
theorem strH_ok (hD:D.OK) {W:Wd} {P:Program} {f E0:Nat} {B:BytOf U} {R:BytR B} (hen:Qc P f)
  (hs:∀ (b g cap:Nat) (cur:Array Value) (l:List UInt8) (w:World),w.cell? ⟨b,1,none⟩=some (.slice (some ⟨g,0,none⟩) l.length cap)→w.heap[g]?=some (.cells cur E0 (0,0))→l.length ≠ 0→l.length≤cap→cap≤maxLen→cur.size=cap * 1 →
   (∀ (j:Nat) (x:UInt8),l[j]?=some x→w.cell? ⟨g,j,none⟩=some (.int .u8 x.toNat))→Calls P f #[.pointer (some ⟨b,0,none⟩)] w fun e w'=>e=.returned (.string ⟨l.toArray⟩)∧w'=w.drew.freeze ⟨g,0,none⟩ l.length):WO W D P (Qmi D f E0 B R):=by
 intro Y c args m xo hY hx
 unfold Qmi at hx
 split at hx
 ·rename_i g0
  split at hx
  ·rename_i i off
   cases hc:(Nat.beq g0 f&&Nat.beq off 0) with
   | false=>rw [hc] at hx;cases hx
   | true =>
    rw [hc,C6] at hx
    obtain ⟨c1,c2⟩:=C0.1 hc
    have e1:=C4 c1;have e2:=C4 c2
    subst e1 e2
    split at hx
    ·rename_i j ver hrd
     split at hx
     ·rename_i T hcur
      split at hx
      ·rename_i l hl
       obtain ⟨et,el⟩:=YU hl
       obtain ⟨TE,Tt,Tl,Tv⟩:=T
       dsimp only at et el
       subst et
       subst el
       cases hcd:((Nat.beq TE E0&&!(Nat.beq E0 0))&&!(m.es.any (Ev.hasApp j (QZ m.tk j)))) with
       | false=>rw [hcd] at hx;cases hx
       | true =>
        rw [hcd] at hx;cases hx
        obtain ⟨d12,d3⟩:=C0.1 hcd
        obtain ⟨d1,d2⟩:=C0.1 d12
        have eE:=C4 d1
        have eN:Nat.beq E0 0=false:=by simpa using d2
        subst eE
        intro β k d r hrun
        obtain ⟨hg,hrun⟩:=KQ (show Q7 _ _=some r from hrun)
        have hrg:R.rg l=true:=QV hg
        have hne:l.isEmpty=false:=by simpa using QP hg
        have henc:=R.ok l hrg
        have hlen:(B.sb l).length=((U.E B.t).encL l).length:=by rw [henc,Q9p]
        have hl0:(B.sb l).length ≠ 0:=by
         rw [hlen,Enc.len]
         cases l with
         | nil=>cases hne
         | cons x r=>simp
        have hlk:Qq8 m.tk j=some ⟨TE,B.t,l,Tv⟩:=by
         unfold cur at hcur
         split at hcur
         ·rename_i T0 h0
          cases hq:Nat.beq T0.ver ver with
          | false=>rw [hq] at hcur;cases hcur
          | true=>rw [hq] at hcur;cases hcur;exact h0
         ·cases hcur
        have htok:Qq8 (m.er D).tk j=some (some ⟨TE,1,(B.sb l).length,[]⟩):=by
         show Qq8 (QI TTok.erO m.tk) j=_
         rw [QN,hlk]
         show some (TTok.erO (⟨TE,B.t,l,Tv⟩:TTok U))=_
         rw [K6 eN]
         show some (some (⟨TE,(U.E B.t).sz,((U.E B.t).encL l).length,[]⟩:Tok))=_
         rw [B.sz,hlen]
        obtain ⟨T2,ys,q1,q2,q3⟩:=Yj hD (tk:=m.tk) hrd
        have hy:ys[1]?=some (CA.app j 1 (Qqw (B.sb l))):=by
         have h1:((ys.drop 1).take 1)[0]?=ys[1]?:=by simp
         rw [← h1,q3]
         show some (match cur m.tk j ver with
          | some T=>CA.app j (U.E T.t).sz ((U.E T.t).encL T.l)
          | none=>CA.any)=_
         rw [hcur]
         show some (CA.app j (U.E B.t).sz ((U.E B.t).encL l))=_
         rw [B.sz,henc]
        refine ⟨.val (.v (.one (.c (.str (B.sb l))))) ⟨m.es,(j,⟨0,B.t,l,QZ m.tk j⟩)::m.tk,m.nx⟩,?_,⟨⟨[],Z⟩,⟨[_],Z⟩,Ck _⟩,hrun⟩
        refine YK hen (o:=.val (.v (.one (.d (.v (.string (Qpz (B.sb l))))))) ((⟨m.es,(j,⟨0,B.t,l,QZ m.tk j⟩)::m.tk,m.nx⟩:TMe U).er D)) fun E V w vs hP hW H hn ha=>?_
        obtain ⟨u,rfl,hu'⟩:=Q8e ha
        obtain ⟨hi,rfl⟩:i < V.nx∧u=.pointer (some ⟨V.ι i,0,none⟩):=hu'
        obtain ⟨-,o,ho,vs,rfl,hvs⟩:=H.own _ _ (show Qq8 (m.er D).hp i=some (.cells T2 ys) from q1)
        obtain ⟨u1,hu1,hr1⟩:=hvs.2 1 _ hy
        obtain ⟨-,hcu,rfl,hrd1⟩:j < V.nx∧(Qqw (B.sb l)).length≤V.cu j∧u1=V.κ j (Qqw (B.sb l)).length∧Reads V.S w (C.sl 1 (Qqw (B.sb l))) u1:=hr1
        rw [Q9p] at hu1 hrd1
        obtain ⟨t1,t2,xs,t3,t4⟩:=H.tok j _ htok
        dsimp only at t2 t3 t4
        obtain ⟨g,cap,cu0,hv,-,hgc,hnc,hcm,hcs,-⟩:∃ g cap cur,V.κ j (B.sb l).length=.slice (some ⟨g,0,none⟩) (B.sb l).length cap∧0≤g∧w.heap[g]?=some (.cells cur TE (0,0))∧(B.sb l).length≤cap∧cap≤maxLen∧cur.size=cap * 1∧cur.toList.take ((B.sb l).length * 1)=xs:=by
         rcases t3.1.2 with ⟨_,hz⟩ | hr
         ·exact absurd hz hl0
         ·exact hr
        have hown:(V.κ j (B.sb l).length).ownBlock=some g:=by rw [hv];rfl
        obtain ⟨t5,t6,t7⟩:=t4 g hown
        rw [hv] at hu1 hrd1
        have hcells:∀ (q:Nat) (x:UInt8),(B.sb l)[q]?=some x→w.cell? ⟨g,q,none⟩=some (.int .u8 x.toNat):=by
         generalize hes:Qqw (B.sb l)=es at hrd1
         have hel:es.length=(B.sb l).length:=by rw [← hes,Q9p]
         generalize hv2:Value.slice (some ⟨g,0,none⟩) (B.sb l).length cap=v2 at hrd1
         cases hrd1 with
         | sl _ _ a cap2 b0 off0 ff hcap haa hll hcc hss hrr =>
          have ea:=haa (by intro e;rw [e] at hel;exact hl0 hel.symm)
          injection hv2 with e1 e2 e3
          rw [ea] at e1
          injection e1 with e1
          injection e1 with e4 e5
          subst e4 e5
          intro q x hq
          have hq':es[q]?=some [C.v (.int .u8 x.toNat)]:=by rw [← hes];unfold Qqw;rw [Cl,hq];rfl
          have h1:=hcc q _ 0 _ hq' rfl
          have h2:=hrr q _ 0 _ hq' rfl
          rw [SH,PV,P7] at h1
          generalize ff q 0=fv at h1 h2
          cases h2
          exact h1
        refine (hs (V.ι i) g cap cu0 (B.sb l) w (by rw [Ja ho];exact hu1) hgc hl0 hnc hcm hcs hcells).mono ?_
        rintro e w' ⟨rfl,rfl⟩
        have hst:=YT (D:=D) (tk:=m.tk) (tk':=(j,(⟨0,B.t,l,QZ m.tk j⟩:TTok U))::m.tk) (es:=m.es) (UH fun hp=>by
         have:m.es.any (Ev.hasApp j (QZ m.tk j))=true:=hp
         rw [this] at d3;cases d3)
        have hhp:∀ k B',Qq8 ((⟨m.es,(j,⟨0,B.t,l,QZ m.tk j⟩)::m.tk,m.nx⟩:TMe U).er D).hp k=some B'→∃ A,Qq8 (m.er D).hp k=some A∧∀ V w o,A.rel V w o→B'.rel V w o:=fun k B' hB=>by
         have ow:=hst k
         have hB':Qq8 (Qg D ((j,(⟨0,B.t,l,QZ m.tk j⟩:TTok U))::m.tk) m.es) k=some B':=hB
         rw [hB'] at ow
         show ∃ A,Qq8 (Qg D m.tk m.es) k=some A∧_
         cases hA:Qq8 (Qg D m.tk m.es) k with
         | none=>rw [hA] at ow;exact ow.elim
         | some A=>rw [hA] at ow;exact ⟨A,rfl,fun V w o hr=>BW.rel ow hr⟩
        have htk:∀ k T,Qq8 ((⟨m.es,(j,⟨0,B.t,l,QZ m.tk j⟩)::m.tk,m.nx⟩:TMe U).er D).tk k=some (some T)→k ≠ j∧Qq8 (m.er D).tk k=some (some T):=fun k T hT=>by
         have hT':Qq8 ((j,(none:Option Tok))::XE m.tk) k=some (some T):=hT
         rw [Q1] at hT'
         by_cases e:j=k
         ·rw [Cd e] at hT';cases hT'
         ·rw [C5 e] at hT';exact ⟨fun h=>e h.symm,hT'⟩
        have H1:=H.weak hhp fun k T hT=>(htk k T hT).2
        obtain ⟨H2,L2⟩:=H1.frz (g:=g) (n:=(B.sb l).length) t5 (fun k B' hB=>by
         obtain ⟨A,hA,-⟩:=hhp k B' hB
         exact t7 k A hA) (fun k T hT hk=>by
         obtain ⟨n1,n2⟩:=htk k T hT
         exact n1 (H.tki k j T _ g n2 htok hk hown))
        exact ⟨_,V,Z,H2,hn,L2,J4 Z⟩
      ·cases hx
     ·cases hx
    ·cases hx
  ·cases hx
 ·cases hx
end
end
noncomputable section
open Go.RowKit
def Tabs (P:Program) (S:Nat→Nat→Prop) (w:World):Prop :=
 ∃ g, P.globalNamed "internal/strconv.uint64pow10" = some g ∧ (∀ o, S g o) ∧ ∀ o, w.cell? ⟨g, o, none⟩ = (Lib.pow10Tab.map fun z => Value.int .u64 z)[o]?
theorem Tabs.mono {P:Program} {S S':Nat→Nat→Prop} {w w':World} (h:Tabs P S w) (hS:∀ b o,S b o→S' b o) (hw:∀ b o,S b o→w'.cell? ⟨b,o,none⟩=w.cell? ⟨b,o,none⟩):Tabs P S' w':=by
 obtain ⟨g,h1,h2,h3⟩:=h
 exact ⟨g,h1,fun o=>hS _ _ (h2 o),fun o=>(hw _ _ (h2 o)).trans (h3 o)⟩
theorem Tabs.is {P : Program} {S : Nat → Nat → Prop} {w : World} (h : Tabs P S w) : Lib.TabIs P w "internal/strconv.uint64pow10" .u64 Lib.pow10Tab := by
 obtain ⟨g,h1,-,h3⟩:=h
 have h0:=h3 0
 unfold Lib.TabIs World.var?
 rw [h1]
 simp only [World.cell?] at h0 h3
 simp only [C1]
 split at h0
 ·rename_i c T f hc
  rw [hc]
  refine congrArg some (PC fun o=>?_)
  have:=h3 o
  rw [hc] at this
  simpa using this
 ·have:(Lib.pow10Tab.map fun z=>Value.int .u64 z)[0]?=some (.int .u64 1):=rfl
  rw [this] at h0;cases h0
theorem Tabs.of {P : Program} {S : Nat → Nat → Prop} {w : World} {g : Nat} (hg : P.globalNamed "internal/strconv.uint64pow10" = some g) (hS : ∀ o, S g o) (h : Lib.TabIs P w "internal/strconv.uint64pow10" .u64 Lib.pow10Tab) : Tabs P S w := by
 refine ⟨g,hg,hS,fun o=>?_⟩
 unfold Lib.TabIs World.var? at h
 rw [hg] at h
 simp only [C1] at h
 split at h
 ·rename_i c T f hc
  cases h
  simp [World.cell?,hc]
 ·cases h
theorem Tabs.blk {P : Program} {S : Nat → Nat → Prop} {w : World} (h : Tabs P S w) : ∃ g, P.globalNamed "internal/strconv.uint64pow10" = some g ∧ (∀ o, S g o) ∧ (∀ o, w.cell? ⟨g, o, none⟩ = (Lib.pow10Tab.map fun z => Value.int .u64 z)[o]?) ∧ ∀ ds, w.heap[g]? ≠ some (Obj.deferred ds) := by
 obtain ⟨g,h1,h2,h3⟩:=h
 refine ⟨g,h1,h2,h3,fun ds hd=>?_⟩
 have h0:=h3 0
 simp only [World.cell?] at h0
 rw [hd] at h0
 have:(Lib.pow10Tab.map fun z=>Value.int .u64 z)[0]?=some (.int .u64 1):=rfl
 rw [this] at h0;cases h0
def Qr3 (P:Program):Wd where
 p:=Tabs P
 mono:=fun V V' w w' hL h=>h.mono hL.S hL.cell
 mono2:=fun S S' w w' hS hw h=>by
  obtain ⟨g,h1,h2,h3,h4⟩:=h.blk
  refine ⟨g,h1,fun o=>hS g o h4 (h2 o),fun o=>?_⟩
  rw [← h3 o]
  simp only [World.cell?]
  rw [hw g h4]
end
noncomputable section
open Go.RowKit Go.Shelf
set_option maxRecDepth 100000
theorem Km {w w':World} (h:Below w.heap.size w w'):Gv w w':=⟨h.os,h.tape,h.output,h.size,fun k hk _=>h.block k hk⟩
theorem Zu {W:Wd} {P:Program} {f:FuncId} {vs0:List Value} {res:TV} (v:Value) (hen:Qc P f) (hres:∀ V w,res.rel V w v) (h:∀ S w,W.p S w→Calls P f vs0.toArray w fun e w'=>e=.returned v∧Gv w w'):FunW W P f (vs0.map fun a=>.one (.d (.v a))) res:=by
 refine ⟨hen,fun S w vs hS hW hargs=>?_⟩
 have hsz:vs.size=vs0.length:=by rw [hargs.1,Cm]
 have hvs:vs=vs0.toArray:=by
  apply PC
  intro k
  cases hk:vs0[k]? with
  | none =>
   have:=Pr.1 hk
   rw [CZ (by omega)]
   simp [hk]
  | some a =>
   obtain ⟨u,h1,h2⟩:=hargs.2 k (.one (.d (.v a))) (by rw [Cl,hk];rfl)
   have e:u=a:=by cases h2;rfl
   rw [h1,e]
   simp [hk]
 rw [hvs]
 exact (h S w hW).mono fun e w' ⟨he,hx⟩=>⟨v,S,he,hx,fun _ _ h=>h,fun b o h=>⟨.inl h,Cj (hS b o h) hx.size⟩,hres _ _⟩
abbrev W0:Wd:=Qr3 Tryz.prog
theorem Wd.tabs {S:Nat→Nat→Prop} {w:World} (h:W0.p S w):Tabs Tryz.prog S w:=h
section
variable {U:Univ}
def Qpn (A B:FuncId→List (TAV U)→Option (KR U)) (f:FuncId) (args:List (TAV U)):Option (KR U):=match A f args with
 | some k=>some k
 | none=>B f args
theorem kOr_ok {W:Wd} {D:Codec U} {P:Program} {A B:FuncId→List (TAV U)→Option (KR U)} (hA:Q0v W D P A) (hB:Q0v W D P B):Q0v W D P (Qpn A B):=by
 intro f args kr a h ha
 unfold Qpn at h
 split at h
 ·rename_i k hk;cases h;exact hA f args _ a hk ha
 ·exact hB f args _ a h ha
end
def k62:KF UV:=⟨[.int .i64],[.str],fun (n:Int)=>Q7 (cond (decide (-9223372036854775808≤n)) (decide (n≤9223372036854775807)) false) (some (Lib.itoa n))⟩
theorem en_62:Qc Tryz.prog 62:=enters_of Tryz.func62 (by kernel_rfl) rfl
theorem Uw:Yb DV W0 Tryz.prog 62 k62:=⟨rfl,fun (v:Int) (r:Qrl) h=>by
 obtain ⟨hg,h⟩:=KQ (show Q7 _ _=some r from h)
 cases h
 have h0:-9223372036854775808≤v:=CH (QV hg)
 have h1:v≤9223372036854775807:=CH (QP hg)
 refine Zu (vs0:=[.int .i64 v]) (res:=Qr5 (Lib.itoa v)) (.string (Qpz (Lib.itoa v))) en_62 (fun V w=>J4 Z) fun S w hW=>?_
 refine Calls.mono (Any.strconv_Itoa Tryz.lays171 v h0 h1 w (Wd.tabs hW).is) ?_
 rintro e w' ⟨rfl,k,os,rfl⟩
 exact ⟨rfl,⟨rfl,rfl,rfl,(by simp [Go.Sort.grow,World.drewN]),fun k hk _=>by simp [Go.Sort.grow,World.drewN,P9 hk]⟩⟩⟩
def k122:KF UV:=⟨[.str,.int .u8],[.int .i64],fun (v:Qrl×Int)=>some (Lib.indexByte v.1 v.2.toNat.toUInt8)⟩
theorem en_122:Qc Tryz.prog 122:=enters_of Tryz.func122 (by kernel_rfl) rfl
theorem Q9d:Yb DV W0 Tryz.prog 122 k122:=⟨rfl,fun (v:Qrl×Int) (r:Int) h=>by
 cases h
 refine Zu (vs0:=[.string (Qpz v.1),.int .u8 v.2]) (res:=Qr6 (Lib.indexByte v.1 v.2.toNat.toUInt8)) (.int .i64 (Lib.indexByte v.1 v.2.toNat.toUInt8)) en_122 (fun V w=>J4 Z) fun S w hW=>?_
 refine Calls.mono (Any.strings_IndexByte Tryz.lays137 (Qpz v.1) v.2 w) ?_
 rintro e w' ⟨rfl,rfl⟩
 exact ⟨Z,ExtM.refl _ _⟩⟩
def k126:KF UV:=⟨[.str,.str],[.bool],fun (v:Qrl×Qrl)=>some (Lib.hasPrefix v.1 v.2)⟩
theorem en_126:Qc Tryz.prog 126:=enters_of Tryz.func126 (by kernel_rfl) rfl
theorem k126_ok:Yb DV W0 Tryz.prog 126 k126:=⟨rfl,fun (v:Qrl×Qrl) (r:Bool) h=>by
 cases h
 refine Zu (vs0:=[.string (Qpz v.1),.string (Qpz v.2)]) (res:=Qr7 (Lib.hasPrefix v.1 v.2)) (.bool (Lib.hasPrefix v.1 v.2)) en_126 (fun V w=>J4 Z) fun S w hW=>?_
 refine Calls.mono (Any.strings_HasPrefix Tryz.lays99 (Qpz v.1) (Qpz v.2) w) ?_
 rintro e w' ⟨rfl,rfl⟩
 exact ⟨Z,ExtM.refl _ _⟩⟩
def k146:KF UV:=⟨[.str,.str],[.str],fun (v:Qrl×Qrl)=>Q7 (cond (Nat.ble v.1.length 1000000000) (cond (Nat.ble v.2.length 1000) (v.2.all fun b=>decide (b.toNat < 128)) false) false) (some (Lib.trimS v.1 v.2))⟩
theorem en_146:Qc Tryz.prog 146:=enters_of Tryz.func146 (by kernel_rfl) rfl
theorem k146_ok:Yb DV W0 Tryz.prog 146 k146:=⟨rfl,fun (v:Qrl×Qrl) (r:Qrl) h=>by
 obtain ⟨hg,h⟩:=KQ (show Q7 _ _=some r from h)
 cases h
 have h0:=C3 (QV hg)
 have h1:=C3 (QV (QP hg))
 have h2:=QP (QP hg)
 refine Zu (vs0:=[.string (Qpz v.1),.string (Qpz v.2)]) (res:=Qr5 (Lib.trimS v.1 v.2)) (.string (Qpz (Lib.trimS v.1 v.2))) en_146 (fun V w=>J4 Z) fun S w hW=>?_
 refine Calls.mono (Any.strings_Trim_laid Tryz.lays160 (by kernel_rfl) (Qpz v.1) (Qpz v.2) w (by rw [YC];omega) (by rw [YC];omega) (ascii_of_all h2)) ?_
 rintro e w' ⟨rfl,hb⟩
 exact ⟨Z,Km hb⟩⟩
theorem en_147:Qc Tryz.prog 147:=enters_of Tryz.func147 (by kernel_rfl) rfl
def atK:FuncId→List (TAV UV)→Option (KR UV):=fun f args=>cond (Nat.beq f 147) (match args with
 | [.one (.c (.str s))]=>some ⟨Int,Q7 (cond (Nat.ble s.length 18) (Lib.atoi s).isSome false) (some ((Lib.atoi s).getD 0)),fun n=>.tup [.one (.c (.v (.int .i64 n))),.one (.c (.v .nilIface))]⟩
 | _=>none) none
theorem Qmh {a b:Value} {x y:AV} (h1:∀ V w,x.rel V w a) (h2:∀ V w,y.rel V w b):∀ V w,(TV.tup [x,y]).rel V w (.tuple #[a,b]):=fun V w =>
 ⟨#[a,b],rfl,rfl,fun i z hz=>by
  match i,hz with
  | 0,hz=>cases hz;exact ⟨a,rfl,h1 V w⟩
  | 1,hz=>cases hz;exact ⟨b,rfl,h2 V w⟩⟩
theorem atK_ok:Q0v W0 DV Tryz.prog atK:=by
 intro f args kr a h ha
 unfold atK at h
 cases hb:Nat.beq f 147 with
 | false=>rw [hb] at h;cases h
 | true =>
  rw [hb,C6] at h
  have:=C4 hb
  subst this
  split at h
  ·rename_i s
   cases h
   obtain ⟨hg,h⟩:=KQ (show Q7 _ _=some a from ha)
   have h0:=C3 (QV hg)
   obtain ⟨n,hn⟩:=Option.isSome_iff_exists.1 (QP hg)
   have e:a=n:=by
    have:(Lib.atoi s).getD 0=a:=Cv h
    rw [← this,hn];rfl
   subst e
   refine ⟨[.one (.d (.v (.string (Qpz s))))],fun tk=>.cons (.one (.d _)) .nil,fun tk=>?_⟩
   refine Zu (vs0:=[.string (Qpz s)]) (.tuple #[.int .i64 a,.nilIface]) en_147 (Qmh (fun V w=>Reads.v _ Z) (fun V w=>Reads.v _ Z)) fun S w hW=>?_
   refine Calls.mono (Any.strconv_Atoi DC (Qpz s) a (by rw [YC];exact h0) hn w) ?_
   rintro e w' ⟨rfl,t,rfl⟩
   exact ⟨Z,Km (Lib.bytesWorld_below _ _ _)⟩
  ·cases h
theorem join_funW (xs:List (List UInt8)) (sep:List UInt8) (h:(cond (Nat.ble xs.length 1000000) (Nat.ble (Lib.join xs sep).length 1000000000) false)=true):FunW (Qr3 Tryz.prog) Tryz.prog 141 [.one (.d (.sl 1 (xs.map Q5b))),.one (ZT sep)] (Qr5 (Lib.join xs sep)):=by
 have h0:=C3 (QV h)
 have h1:=C3 (QP h)
 have hmap:(xs.map Qpz).map (·.data.toList)=xs:=by
  rw [CI]
  have:((fun x:ByteArray=>x.data.toList) ∘ Qpz)=id:=rfl
  rw [this,List.map_id]
 refine ⟨enters_of Tryz.func141 (by kernel_rfl) rfl,fun S w vs hS _ hargs=>?_⟩
 obtain ⟨u0,hu0,r0⟩:=hargs.2 0 _ rfl
 obtain ⟨u1,hu1,r1⟩:=hargs.2 1 _ rfl
 have e1:u1=.string (Qpz sep):=by cases r1;rfl
 subst e1
 have hvs:vs=#[u0,.string (Qpz sep)]:=by
  apply PC
  intro k
  match k with
  | 0=>rw [hu0];rfl
  | 1=>rw [hu1];rfl
  | k+2=>rw [CZ (by rw [hargs.1];simp)];simp
 rw [hvs]
 have fin:∀ (e:Ending) (w':World),e=.returned (.string (Qpz (Lib.join xs sep)))∧Below w.heap.size w w'→∃ v S',e=.returned v∧Gv w w'∧(∀ b o,S b o→S' b o)∧(∀ b o,S' b o→(S b o∨w.heap.size≤b)∧b < w'.heap.size)∧(Qr5 (Lib.join xs sep)).rel (Yr S') w' v :=
  fun e w' ⟨he,hb⟩=>⟨_,S,he,Km hb,fun _ _ h=>h,fun b o h=>⟨.inl h,Cj (hS b o h) hb.size⟩,J4 rfl⟩
 have rd:Reads S w (.sl 1 (xs.map Q5b)) u0:=r0
 generalize hes:xs.map Q5b=es at rd
 cases rd with
 | sl _ _ a cap b off f hcap ha hl hc hs hr =>
  subst hes
  rw [Cm] at hcap ⊢
  cases xs with
  | nil =>
   refine Calls.mono (Any.strings_Join_none Xr Tryz.bx156 a cap (Qpz sep) w) ?_
   rintro e w' ⟨rfl,rfl⟩
   exact fin _ _ ⟨Z,Below.refl _ _⟩
  | cons x r =>
   have ha':=ha (by simp)
   subst ha'
   have hget:∀ (j:Nat) (y:List UInt8),(x::r)[j]?=some y→w.cell? ⟨b,off+j,none⟩=some (.string (Qpz y))∧S b (off+j):=fun j y hy=>by
    have hj:((x::r).map Q5b)[j]?=some (Q5b y):=by rw [Cl,hy];rfl
    have h3:=hc j (Q5b y) 0 _ hj rfl
    have h4:=hs j (Q5b y) 0 _ hj rfl
    have h5:=hr j (Q5b y) 0 _ hj rfl
    rw [SH,PV] at h3 h4
    have e5:f j 0=.string (Qpz y):=by
     generalize hfv:f j 0=fv at h5
     cases h5;rfl
    rw [e5] at h3
    exact ⟨h3,h4⟩
   have key:=Any.strings_Join Xr Tryz.bx156 b off cap ((x::r).map Qpz) (Qpz sep) w (fun j y hy=>by
    rw [Cl] at hy
    cases hz:(x::r)[j]? with
    | none=>rw [hz] at hy;cases hy
    | some z=>rw [hz] at hy;cases hy;exact (hget j z hz).1) (hS _ _ (hget 0 x rfl).2) (by rw [Cm];omega) (by rw [Cm];exact hcap) (by rw [hmap];exact Ca h1 (by decide))
   rw [hmap,Cm] at key
   exact Calls.mono key fin
def k141:KF UV:=⟨[.sl .t9,.str],[.str],fun (v:List Qrl×Qrl)=>Q7 (cond (Nat.ble v.1.length 1000000) (Nat.ble (Lib.join v.1 v.2).length 1000000000) false) (some (Lib.join v.1 v.2))⟩
theorem Qg6:Yb DV W0 Tryz.prog 141 k141:=⟨rfl,fun (v:List Qrl×Qrl) (r:Qrl) h=>by
 obtain ⟨hg,h⟩:=KQ (show Q7 _ _=some r from h)
 cases h
 exact join_funW v.1 v.2 hg⟩
def Qj4 (n:Int):Option (List UInt8):=Q7 (cond (decide (-9223372036854775808≤n)) (decide (n≤9223372036854775807)) false) (some (Lib.itoa n))
def Qdl (s:List UInt8) (c:Int):Option Int:=some (Lib.indexByte s c.toNat.toUInt8)
def Qoa (s p:List UInt8):Option Bool:=some (Lib.hasPrefix s p)
def Qlc (s c:List UInt8):Option (List UInt8):=Q7 (cond (Nat.ble s.length 1000000000) (cond (Nat.ble c.length 1000) (c.all fun b=>decide (b.toNat < 128)) false) false) (some (Lib.trimS s c))
def Qo9 (l:List (List UInt8)) (s:List UInt8):Option (List UInt8):=Q7 (cond (Nat.ble l.length 1000000) (Nat.ble (Lib.join l s).length 1000000000) false) (some (Lib.join l s))
theorem en_112:Qc Tryz.prog 112:=enters_of Tryz.func112 (by kernel_rfl) rfl
theorem en_30:Qc Tryz.prog 30:=enters_of Tryz.func30 (by kernel_rfl) rfl
theorem Qmb:WO W0 DV Tryz.prog (Qpe DV 112 62):=ccH_ok Ql en_112 (fun b w h=>Any.Builder_copyCheck_used DB Tryz.bx156.toX72 b w h) (fun b w h h2 h3=>Any.Builder_copyCheck_fresh DB Tryz.bx156.toX72 b w h h2 h3)
def rgV:BytR Qpf where
 rg:=fun l=>(l:List Byt).all fun x=>cond (decide (0≤x.n)) (decide (x.n < 256)) false
 ok:=fun l h=>by
  have key:∀ l:List Byt,(l.all fun x=>cond (decide (0≤x.n)) (decide (x.n < 256)) false)=true→l.map bytC=Qqw (l.map Byt.u8):=fun l h=>by
   unfold Qqw
   rw [CI]
   refine Cx fun x hx=>?_
   have hx2:=Cf.1 h x hx
   have h0:0≤x.n:=CH (QV hx2)
   have h1:x.n < 256:=CH (QP hx2)
   show [C.v (.int .u8 x.n)]=[C.v (.int .u8 ((UInt8.ofNat x.n.toNat).toNat:Int))]
   rw [UInt8.toNat_ofNat',Nat.mod_eq_of_lt (by omega),Pf h0]
  exact key l h
theorem st_ok:WO W0 DV Tryz.prog (Qmi DV 30 5 Qpf rgV):=strH_ok Ql en_30 fun b g cap cur l w h1 h2 h3 h4 h5 h6 h7=>builder_String Tryz.lays169 Tryz.bx169 b g cap cur l w h1 h2 h3 h4 h5 h6 h7
end
noncomputable section
open Go.RowKit Go.Shelf
set_option maxRecDepth 100000
theorem Xm:QO Tryz.prog 25 0=some 0:=by kernel_rfl
theorem fo_25_1:QO Tryz.prog 25 1=some 1:=by kernel_rfl
theorem Qgn:QO Tryz.prog 25 2=some 2:=by kernel_rfl
theorem Q2j:QO Tryz.prog 25 3=some 3:=by kernel_rfl
theorem Kl:QO Tryz.prog 25 4=some 4:=by kernel_rfl
theorem Q2i:QO Tryz.prog 82 0=some 0:=by kernel_rfl
theorem Do:QO Tryz.prog 82 1=some 1:=by kernel_rfl
theorem fo_142_0:QO Tryz.prog 142 0=some 0:=by kernel_rfl
theorem Q46:QO Tryz.prog 142 1=some 1:=by kernel_rfl
theorem fo_155_0:QO Tryz.prog 155 0=some 0:=by kernel_rfl
theorem Qbu:QO Tryz.prog 155 1=some 1:=by kernel_rfl
theorem K0:QO Tryz.prog 155 2=some 2:=by kernel_rfl
theorem ZZ:QO Tryz.prog 155 3=some 3:=by kernel_rfl
theorem fo_155_4:QO Tryz.prog 155 4=some 4:=by kernel_rfl
theorem Y1:Jd Tryz.prog 3=some (false,1):=by kernel_rfl
theorem Qch:Jd Tryz.prog 4=some (false,1):=by kernel_rfl
theorem Q0q:Jd Tryz.prog 9=some (false,1):=by kernel_rfl
theorem Qh6:Jd Tryz.prog 22=some (false,1):=by kernel_rfl
theorem Dy:Jd Tryz.prog 23=some (false,1):=by kernel_rfl
theorem Dx:Jd Tryz.prog 25=some (true,5):=by kernel_rfl
theorem Qkm:Jd Tryz.prog 26=some (false,1):=by kernel_rfl
theorem GU:Jd Tryz.prog 28=some (false,1):=by kernel_rfl
theorem Qcg:Jd Tryz.prog 80=some (false,1):=by kernel_rfl
theorem JE:Jd Tryz.prog 82=some (true,2):=by kernel_rfl
theorem Qko:Jd Tryz.prog 107=some (true,4):=by kernel_rfl
theorem Q50:Jd Tryz.prog 142=some (true,2):=by kernel_rfl
theorem ag_153:Jd Tryz.prog 153=some (false,1):=by kernel_rfl
theorem ag_155:Jd Tryz.prog 155=some (true,5):=by kernel_rfl
theorem Q4z:Jd Tryz.prog 156=some (true,65):=by kernel_rfl
theorem Qes:QW Tryz.prog 22=some (82,2):=by kernel_rfl
theorem WX:QW Tryz.prog 23=some (25,5):=by kernel_rfl
theorem UU:QW Tryz.prog 80=some (142,2):=by kernel_rfl
theorem z_3:Y5 Tryz.prog 3=some [.int .i64 0]:=by kernel_rfl
theorem Qng:Y5 Tryz.prog 25=some [.int .i64 0,.int .i64 0,.string ByteArray.empty,.slice none 0 0,.slice none 0 0]:=by kernel_rfl
theorem z_26:Y5 Tryz.prog 26=some [.nilFunc]:=by kernel_rfl
theorem z_28:Y5 Tryz.prog 28=some [.int .i64 0]:=by kernel_rfl
theorem Qcq:Y5 Tryz.prog 82=some [.int .i64 0,.slice none 0 0]:=by kernel_rfl
theorem z_107:Y5 Tryz.prog 107=some [.int .i64 0,.int .i64 0,.int .i64 0,.int .i64 0]:=by kernel_rfl
theorem Qeg:Y5 Tryz.prog 142=some [.int .i64 0,.int .i64 0]:=by kernel_rfl
theorem z_155:Y5 Tryz.prog 155=some [.bool false,.bool false,.int .i64 0,.int .i64 0,.int .i64 0]:=by kernel_rfl
theorem Qhu:Y5 Tryz.prog 156=some [.bool false,.bool false,.int .i64 0,.int .i64 0,.int .i64 0,.bool false,.bool false,.int .i64 0,.int .i64 0,.int .i64 0,.bool false,.bool false,.int .i64 0,.int .i64 0,.int .i64 0,.bool false,.bool false,.int .i64 0,.int .i64 0,.int .i64 0,.bool false,.bool false,.int .i64 0,.int .i64 0,.int .i64 0,.bool false,.bool false,.int .i64 0,.int .i64 0,.int .i64 0,.bool false,.bool false,.int .i64 0,.int .i64 0,.int .i64 0,.bool false,.bool false,.int .i64 0,.int .i64 0,.int .i64 0,.bool false,.bool false,.int .i64 0,.int .i64 0,.int .i64 0,.bool false,.bool false,.int .i64 0,.int .i64 0,.int .i64 0,.bool false,.bool false,.int .i64 0,.int .i64 0,.int .i64 0,.bool false,.bool false,.int .i64 0,.int .i64 0,.int .i64 0,.bool false,.bool false,.int .i64 0,.int .i64 0,.int .i64 0]:=by kernel_rfl
theorem bd_107:Y3 Tryz.prog 107 [(0,1),(1,1),(2,1),(3,1)] [.int .i64 0,.int .i64 0,.int .i64 0,.int .i64 0]:=⟨by kernel_rfl,by kernel_rfl⟩
theorem Jq:Y3 Tryz.prog 155 [(0,1),(1,1),(2,1),(3,1),(4,1)] [.bool false,.bool false,.int .i64 0,.int .i64 0,.int .i64 0]:=⟨by kernel_rfl,by kernel_rfl⟩
theorem Qkf:Y3 Tryz.prog 156 [(0,5),(5,5),(10,5),(15,5),(20,5),(25,5),(30,5),(35,5),(40,5),(45,5),(50,5),(55,5),(60,5)] [.bool false,.bool false,.int .i64 0,.int .i64 0,.int .i64 0,.bool false,.bool false,.int .i64 0,.int .i64 0,.int .i64 0,.bool false,.bool false,.int .i64 0,.int .i64 0,.int .i64 0,.bool false,.bool false,.int .i64 0,.int .i64 0,.int .i64 0,.bool false,.bool false,.int .i64 0,.int .i64 0,.int .i64 0,.bool false,.bool false,.int .i64 0,.int .i64 0,.int .i64 0,.bool false,.bool false,.int .i64 0,.int .i64 0,.int .i64 0,.bool false,.bool false,.int .i64 0,.int .i64 0,.int .i64 0,.bool false,.bool false,.int .i64 0,.int .i64 0,.int .i64 0,.bool false,.bool false,.int .i64 0,.int .i64 0,.int .i64 0,.bool false,.bool false,.int .i64 0,.int .i64 0,.int .i64 0,.bool false,.bool false,.int .i64 0,.int .i64 0,.int .i64 0,.bool false,.bool false,.int .i64 0,.int .i64 0,.int .i64 0]:=⟨by kernel_rfl,by kernel_rfl⟩
theorem arr_156:Q2s Tryz.prog 156=some (13,5):=by kernel_rfl
theorem Qd0:Jy Tryz.prog 9=true:=by kernel_rfl
theorem en_27:Qc Tryz.prog 27:=enters_of Tryz.func27 (by kernel_rfl) rfl
theorem en_58:Qc Tryz.prog 58:=enters_of Tryz.func58 (by kernel_rfl) rfl
theorem en_59:Qc Tryz.prog 59:=enters_of Tryz.func59 (by kernel_rfl) rfl
theorem en_60:Qc Tryz.prog 60:=enters_of Tryz.func60 (by kernel_rfl) rfl
theorem en_106:Qc Tryz.prog 106:=enters_of Tryz.func106 (by kernel_rfl) rfl
theorem Qk5:Qc Tryz.prog 107:=enters_of Tryz.func107 (by kernel_rfl) rfl
theorem en_108:Qc Tryz.prog 108:=enters_of Tryz.func108 (by kernel_rfl) rfl
theorem en_109:Qc Tryz.prog 109:=enters_of Tryz.func109 (by kernel_rfl) rfl
theorem en_110:Qc Tryz.prog 110:=enters_of Tryz.func110 (by kernel_rfl) rfl
theorem en_111:Qc Tryz.prog 111:=enters_of Tryz.func111 (by kernel_rfl) rfl
theorem en_135:Qc Tryz.prog 135:=enters_of Tryz.func135 (by kernel_rfl) rfl
theorem en_136:Qc Tryz.prog 136:=enters_of Tryz.func136 (by kernel_rfl) rfl
theorem Qk4:Qc Tryz.prog 158:=enters_of Tryz.func158 (by kernel_rfl) rfl
theorem Qk3:Qc Tryz.prog 188:=enters_of Tryz.func188 (by kernel_rfl) rfl
theorem Qk2:Qc Tryz.prog 189:=enters_of Tryz.func189 (by kernel_rfl) rfl
theorem Qk1:Qc Tryz.prog 211:=enters_of Tryz.func211 (by kernel_rfl) rfl
theorem mixed:Tryz.prog.follows .mixedOrders=true:=by kernel_rfl
theorem Qkk:Qcv Tryz.prog 156=some (13,5):=by kernel_rfl
def Zh:Code:=(Qqv (Qqv (Qqu (Qqv (Qqu (Qqu (Qqu (Qmd Tryz.f27))))))))
def Yv:Code:=(Qqu (Qqv (Qqu (Qqv (Qqu (Qqu (Qqu (Qmd Tryz.f27))))))))
def m189f2 (a0:Qrf) (a1:Lvl):Option Unit :=
 some ()
def Kt (a0:List Qrf) (a1:Lvl) (s1:Int):Option (LO Int (Unit⊕Int)) :=
 cond (decide (s1 < (a0.length:Int)))
   (Option.bind (J0 a0 s1) fun (x3:Qrf) =>
 Option.bind (m189f2 x3 a1) fun (x4:Unit) =>
 cond (decide (a1.c≤x3.2))
   (some (.done (.inr s1)))
   (some (.next (Qm (s1+1)))))
   (some (.done (.inl ())))
def Qj7 (a0:List Qrf) (a1:Lvl):Option Int :=
 Option.bind (Q9 (Kt a0 a1) Qd 0) (Sum.elim (fun (o1:Unit)=>some (-1)) (fun o=>some o))
def Qdi (a0:List Qrf) (a1:Lvl):Option Bool :=
 Option.bind (Qj7 a0 a1) fun (x1:Int) =>
 some (decide (0≤x1))
def Xe (a0:Lvl) (s1:Int):Option (LO Int (Unit⊕Bool)) :=
 cond (decide (s1 < (a0.vs.length:Int)))
   (Option.bind (J0 a0.vs s1) fun (x5:Qrf) =>
 Option.bind (cond (decide (x5.1 < (-65536)))
   (some true)
   (cond (decide (7 < x5.1))
   (some true)
   (cond (decide (x5.2 < 0))
   (some true)
   (cond (decide (100 < x5.2))
   (some true)
   (cond (decide (0 < s1))
   (Option.bind (J0 a0.vs (Qm (s1 - 1))) fun (x12:Qrf) =>
 some (decide (x5.1≤x12.1)))
   (some false)))))) (fun (v6:Bool)=>cond v6
   (some (.done (.inr false)))
   (some (.next (Qm (s1+1))))))
   (some (.done (.inl ())))
def Q5e (a0:Lvl):Option Bool :=
 Option.bind (cond (decide (a0.c < 0))
   (some true)
   (cond (decide (100 < a0.c))
   (some true)
   (cond (decide (0 < a0.c))
   (Option.bind (Option.bind (Qdi a0.vs a0) fun (x7:Bool) =>
 some x7) (fun (y5:Bool)=>some y5))
   (some false)))) (fun (v1:Bool)=>cond v1
   (some false)
   (Option.bind (Q9 (Xe a0) Qd 0) (Sum.elim (fun (o3:Unit)=>some true) (fun o=>some o))))
def Bq188_158:IH UV:=⟨Tryz.f188,⟨[],[]⟩,.lab [([.reg 4],.bool)]⟩
def Bq189_158:IH UV:=⟨Tryz.f189,⟨[],[]⟩,.lab [([.reg 3],.bool)]⟩
def Bq211_158:IH UV:=⟨Tryz.f211,⟨[(2,⟨[([.reg 8],.int .i64)],[],true⟩)],[]⟩,.lab [([.reg 4],.int .i64)]⟩
def Qo8 (a0:Lvl):Option (Bool) :=
 Option.bind (Option.bind (Option.bind (Q9 (σ:=Int) (β:=Unit⊕Int) (fun s5=>cond ((decide (s5 < (a0.vs.length:Int)))) (Option.bind (J0 a0.vs s5) fun (x7:Qrf)=>Option.bind (some (decide (a0.c≤x7.2))) fun (v8:Bool)=>cond v8 (some (.done (.inr s5))) (some (.next (Qm (s5+1))))) (some (.done (.inl ())))) Qd 0) (Sum.elim (fun (v6:Unit)=>some (-1)) (fun (o9:Int)=>some o9))) fun (v2:Int)=>some (decide (0≤v2))) fun (v1:Bool)=>some v1
def q158:KF UV:=⟨[.stc .t82],[.bool],fun v=>Qo8 v⟩
def Hq158:Hints UV:=⟨[],[]⟩
theorem q158_ok:Yb DV .any Tryz.prog 158 q158:=YL (C:=Qrk) rfl QC Ql (QB (tb:=[]) Ql trivial) (Gd (C:=Qrk) rfl QC Ql (QB (tb:=[]) Ql trivial) JH (I:=[(188,Bq188_158),(189,Bq189_158),(211,Bq211_158)]) ⟨⟨Tryz.func188,Qk3⟩,⟨Tryz.func189,Qk2⟩,⟨Tryz.func211,Qk1⟩,trivial⟩ 8) Tryz.func158 Qk4 Hq158 q158 rfl (fun v=>by kernel_rfl)
def Qmn (a0:Lvl):Option (Bool) :=
 Option.bind (cond ((decide (a0.c < 0))) (some true) (cond ((decide (100 < a0.c))) (some true) (cond ((decide (0 < a0.c))) (Option.bind (Qo8 a0) fun (x3:Bool)=>some x3) (some false)))) fun (v2:Bool)=>cond v2 (some false) (Option.bind (Q9 (σ:=Int) (β:=Unit⊕Bool) (fun s6=>cond ((decide (s6 < (a0.vs.length:Int)))) (Option.bind (J0 a0.vs s6) fun (x8:Qrf)=>cond ((decide (x8.1 < (-65536)))) (some (.done (.inr false))) (cond ((decide (7 < x8.1))) (some (.done (.inr false))) (cond ((decide (x8.2 < 0))) (some (.done (.inr false))) (cond ((decide (100 < x8.2))) (some (.done (.inr false))) (cond ((decide (0 < s6))) (Option.bind (J0 a0.vs (Qm (s6 - 1))) fun (x9:Qrf)=>cond ((decide (x8.1≤x9.1))) (some (.done (.inr false))) (some (.next (Qm (s6+1))))) (some (.next (Qm (s6+1))))))))) (some (.done (.inl ())))) Qd 0) (Sum.elim (fun (v7:Unit)=>some true) (fun (o10:Bool)=>some o10)))
def p136:KF UV:=⟨[.stc .t82],[.bool],fun v=>Qmn v⟩
def Hq136:Hints UV:=⟨[(1,⟨[([.reg 21],.bool)],[],false⟩),(5,⟨[([.reg 25],.int .i64)],[],true⟩)],[(10,[])]⟩
theorem p136_ok:Yb DV .any Tryz.prog 136 p136:=YL (C:=Qrk) rfl QC Ql (QB (tb:=[(158,q158)]) Ql ⟨q158_ok,trivial⟩) JH Tryz.func136 en_136 Hq136 p136 rfl (fun v=>by kernel_rfl)
theorem n136_eq (a0:Lvl):Qmn a0=Q5e a0:=by
 have e:(fun (s6:Int)=>cond ((decide (s6 < (a0.vs.length:Int)))) (Option.bind (J0 a0.vs s6) fun (x8:Qrf)=>cond ((decide (x8.1 < (-65536)))) (some (.done (.inr false))) (cond ((decide (7 < x8.1))) (some (.done (.inr false))) (cond ((decide (x8.2 < 0))) (some (.done (.inr false))) (cond ((decide (100 < x8.2))) (some (.done (.inr false))) (cond ((decide (0 < s6))) (Option.bind (J0 a0.vs (Qm (s6 - 1))) fun (x9:Qrf)=>cond ((decide (x8.1≤x9.1))) (some (.done (.inr false))) (some (.next (Qm (s6+1))))) (some (.next (Qm (s6+1))))))))) (some (.done (.inl ()))))=Xe a0:=by
   funext s
   unfold Xe
   cases (decide (s < (a0.vs.length:Int))) with
   | false=>rfl
   | true=>cases J0 a0.vs s with
     | none=>rfl
     | some x =>
       simp only [C6,C1]
       generalize decide (x.1 < (-65536))=b1
       generalize decide (7 < x.1)=b2
       generalize decide (x.2 < 0)=b3
       generalize decide (100 < x.2)=b4
       generalize decide (0 < s)=b5
       cases b1 with | true=>rfl | false=>cases b2 with | true=>rfl | false=>cases b3 with | true=>rfl | false=>cases b4 with | true=>rfl | false=>cases b5 with | false=>rfl | true=>cases J0 a0.vs (Qm (s - 1)) <;> rfl
 unfold Qmn Q5e
 rw [e];rfl
def q136:KF UV:=⟨[.stc .t82],[.bool],fun v=>Q5e v⟩
theorem Qf2:Yb DV .any Tryz.prog 136 q136:=⟨rfl,fun v r h=>p136_ok.2 v r ((n136_eq v).trans h)⟩
theorem m136_ok (a0:Lvl) (r:Bool) (h0:Q5e a0=some r):Fun Tryz.prog 136 [.agg (Qqt a0)] (Qh [.one (Qqq r)]):=FunW.any (Eq.mp (show FunW .any Tryz.prog 136 (QM DV q136.args a0) (Qh (QM DV q136.res r))=_ from by kernel_rfl) (Qf2.2 a0 r h0))
def Qdk (a0:Byt):Option Bool :=
 Option.bind (cond (decide (97≤a0.n))
   (cond (decide (a0.n≤122))
   (some true)
   (cond (decide (65≤a0.n))
   (cond (decide (a0.n≤90))
   (some true)
   (some (a0.n==95)))
   (some (a0.n==95))))
   (cond (decide (65≤a0.n))
   (cond (decide (a0.n≤90))
   (some true)
   (some (a0.n==95)))
   (some (a0.n==95)))) (fun (v1:Bool)=>some v1)
def q135:KF UV:=⟨[.int .u8],[.bool],fun v=>Qdk ⟨v⟩⟩
def Hq135:Hints UV:=⟨[(1,⟨[([.reg 2],.bool)],[],false⟩)],[]⟩
theorem q135_ok:Yb DV .any Tryz.prog 135 q135:=YL (C:=Qrk) rfl QC Ql (QB (tb:=[]) Ql trivial) JH Tryz.func135 en_135 Hq135 q135 rfl (fun v=>by kernel_rfl)
def Xh (a0:Qrl) (s1:Bool×Int):Option (LO (Bool×Int) (Bool⊕Bool)) :=
 cond (decide (s1.2 < (a0.length:Int)))
   (Option.bind (J0 a0 s1.2) fun (x3:UInt8) =>
 Option.bind (Qdk (⟨(x3.toNat:Int)⟩:Byt)) fun (x4:Bool) =>
 cond x4
   (some (.next (false,(Qm (s1.2+1)))))
   (cond s1.1
   (some (.done (.inr false)))
   (cond ((x3.toNat:Int)==46)
   (some (.next (true,(Qm (s1.2+1)))))
   (Option.bind (cond (decide ((x3.toNat:Int) < 48))
   (some true)
   (some (decide (57 < (x3.toNat:Int))))) (fun (v8:Bool)=>cond v8
   (cond ((x3.toNat:Int) != 39)
   (some (.done (.inr false)))
   (some (.next (s1.1,(Qm (s1.2+1))))))
   (some (.next (s1.1,(Qm (s1.2+1))))))))))
   (some (.done (.inl s1.1)))
def Q05 (a0:Qrl):Option Bool :=
 Option.bind (Q9 (Xh a0) Qd (true,0)) (Sum.elim (fun (o1:Bool)=>Option.bind (cond (!o1)
   (some (decide ((a0.length:Int)≤64)))
   (some false)) (fun (v2:Bool)=>some v2)) (fun o=>some o))
def Qmo (a0:List UInt8):Option (Bool) :=
 Option.bind (Q9 (σ:=Bool×Int) (β:=Bool⊕Bool) (fun s41=>cond ((decide (s41.2 < (a0.length:Int)))) (Option.bind (J0 a0 s41.2) fun (x43:UInt8)=>Option.bind (Qdk ⟨(x43.toNat:Int)⟩) fun (x44:Bool)=>Option.bind (α:=Bool⊕Bool) (cond x44 (some (.inl false)) (cond s41.1 (some (.inr false)) (Option.bind (α:=Bool⊕Bool) (cond (((x43.toNat:Int)==46)) (some (.inl true)) (Option.bind (cond ((decide ((x43.toNat:Int) < 48))) (some true) (some (decide (57 < (x43.toNat:Int))))) fun (v58:Bool)=>Option.bind (α:=Unit⊕Bool) (cond v58 (cond (((x43.toNat:Int) != 39)) (some (.inr false)) (some (.inl ()))) (some (.inl ()))) (Sum.elim (fun (v59:Unit)=>some (.inl s41.1)) (fun (o60:Bool)=>some (.inr o60))))) (Sum.elim (fun (v57:Bool)=>some (.inl v57)) (fun (o61:Bool)=>some (.inr o61)))))) (Sum.elim (fun (v53:Bool)=>some (.next (v53,(Qm (s41.2+1))))) (fun (o62:Bool)=>some (.done (.inr o62))))) (some (.done (.inl s41.1)))) Qd (true,0)) (Sum.elim (fun (v42:Bool)=>Option.bind (cond ((!v42)) (some (decide ((a0.length:Int)≤64))) (some false)) fun (v63:Bool)=>some v63) (fun (o64:Bool)=>some o64))
def p110:KF UV:=⟨[.str],[.bool],fun v=>Qmo v⟩
def Hq110:Hints UV:=⟨[(3,⟨[([.reg 3],.bool),([.reg 8],.int .i64)],[([.reg 3],.bool)],true⟩),(11,⟨[([.reg 3],.bool)],[],true⟩),(17,⟨[([.reg 3],.bool)],[],true⟩),(19,⟨[([.reg 22],.bool)],[],false⟩),(20,⟨[],[],true⟩),(25,⟨[([.reg 2],.bool)],[],false⟩)],[]⟩
theorem p110_ok:Yb DV .any Tryz.prog 110 p110:=YL (C:=Qrk) rfl QC Ql (QB (tb:=[(135,q135)]) Ql ⟨q135_ok,trivial⟩) JH Tryz.func110 en_110 Hq110 p110 rfl (fun v=>by kernel_rfl)
theorem n110_eq (a0:List UInt8):Qmo a0=Q05 a0:=by
 have e:(fun (s41:Bool×Int)=>cond ((decide (s41.2 < (a0.length:Int)))) (Option.bind (J0 a0 s41.2) fun (x43:UInt8)=>Option.bind (Qdk ⟨(x43.toNat:Int)⟩) fun (x44:Bool)=>Option.bind (α:=Bool⊕Bool) (cond x44 (some (.inl false)) (cond s41.1 (some (.inr false)) (Option.bind (α:=Bool⊕Bool) (cond (((x43.toNat:Int)==46)) (some (.inl true)) (Option.bind (cond ((decide ((x43.toNat:Int) < 48))) (some true) (some (decide (57 < (x43.toNat:Int))))) fun (v58:Bool)=>Option.bind (α:=Unit⊕Bool) (cond v58 (cond (((x43.toNat:Int) != 39)) (some (.inr false)) (some (.inl ()))) (some (.inl ()))) (Sum.elim (fun (v59:Unit)=>some (.inl s41.1)) (fun (o60:Bool)=>some (.inr o60))))) (Sum.elim (fun (v57:Bool)=>some (.inl v57)) (fun (o61:Bool)=>some (.inr o61)))))) (Sum.elim (fun (v53:Bool)=>some (.next (v53,(Qm (s41.2+1))))) (fun (o62:Bool)=>some (.done (.inr o62))))) (some (.done (.inl s41.1))))=Xh a0:=by
   funext s
   unfold Xh
   cases (decide (s.2 < (a0.length:Int))) with
   | false=>rfl
   | true=>cases J0 a0 s.2 with
     | none=>rfl
     | some x =>
       simp only [C6,C1]
       cases Qdk ⟨(x.toNat:Int)⟩ with
       | none=>rfl
       | some b0 =>
         simp only [C1]
         generalize ((x.toNat:Int)==46)=b2
         generalize decide ((x.toNat:Int) < 48)=b3
         generalize decide (57 < (x.toNat:Int))=b4
         generalize ((x.toNat:Int) != 39)=b5
         cases b0 with | true=>rfl | false=>cases s.1 with | true=>rfl | false=>cases b2 with | true=>rfl | false=>cases b3 <;> cases b4 <;> cases b5 <;> rfl
 unfold Qmo Q05
 rw [e]
def q110:KF UV:=⟨[.str],[.bool],fun v=>Q05 v⟩
theorem Qf3:Yb DV .any Tryz.prog 110 q110:=⟨rfl,fun v r h=>p110_ok.2 v r ((n110_eq v).trans h)⟩
theorem m110_ok (a0:Qrl) (r:Bool) (h0:Q05 a0=some r):Fun Tryz.prog 110 [.one (ZT a0)] (Qh [.one (Qqq r)]):=FunW.any (Eq.mp (show FunW .any Tryz.prog 110 (QM DV q110.args a0) (Qh (QM DV q110.res r))=_ from by kernel_rfl) (Qf3.2 a0 r h0))
def m60_l0 (a0:Tm) (rc:Tm→Option Int) (s1:Int×Int):Option (LO (Int×Int) Int) :=
 cond (decide (s1.2 < (a0.kids.length:Int)))
   (Option.bind (J0 a0.kids s1.2) fun (x3:Tm) =>
 Option.bind (rc x3) fun (x4:Int) =>
 some (.next ((max s1.1 x4),(Qm (s1.2+1)))))
   (some (.done s1.1))
def Qo3 (rc:Tm→Option Int) (a0:Tm):Option Int :=
 Option.bind (Q9 (m60_l0 a0 rc) Qd (0,0)) (fun (o1:Int)=>some (Qm (o1+1)))
def m60F (rc:Tm→Option Int) (u:Tm):Option Int:=Qo3 rc u
def Qp1 (a0:Tm):Option Int:=Jv m60F Qd a0
def q60:KF UV:=⟨[.stc .t25],[.int .i64],fun v=>Qp1 v⟩
def Hq60:Hints UV:=⟨[(3,⟨[([.reg 3],.int .i64),([.reg 9],.int .i64)],[([.reg 3],.int .i64)],false⟩)],[]⟩
theorem q60s_ok (rc:tup q60.args→Option (tup q60.res)) (H:∀ u r,rc u=some r→FunW .any Tryz.prog 60 (QM DV q60.args u) (Qh (QM DV q60.res r))):Yb DV .any Tryz.prog 60 ⟨q60.args,q60.res,fun v=>Qo3 rc v⟩:=YL (C:=Qrk) rfl QC Ql (QB (tb:=[(60,(⟨q60.args,q60.res,rc⟩:KF UV))]) Ql ⟨⟨rfl,H⟩,trivial⟩) JH Tryz.func60 en_60 Hq60 _ rfl (fun v=>by kernel_rfl)
theorem q60_ok:Yb DV .any Tryz.prog 60 q60:=⟨rfl,fun v r h=>GB (C:=fun u r=>FunW .any Tryz.prog 60 (QM DV q60.args u) (Qh (QM DV q60.res r))) (fun rc H u r h=>(q60s_ok rc H).2 u r h) Qd v r h⟩
theorem m60_ok (a0:Tm) (r:Int) (h0:Qp1 a0=some r):Fun Tryz.prog 60 [.agg (Qqt a0)] (Qh [.one (Qqp r)]):=FunW.any (Eq.mp (show FunW .any Tryz.prog 60 (QM DV q60.args a0) (Qh (QM DV q60.res r))=_ from by kernel_rfl) (q60_ok.2 a0 r h0))
def Qmv :Option ((List Use)) :=
 some ([(⟨true,false,0,0,(-1)⟩:Use),(⟨false,false,0,0,(-1)⟩:Use),(⟨false,false,1,0,(-1)⟩:Use),(⟨false,true,(-1),0,(-1)⟩:Use),(⟨false,false,0,2,(-1)⟩:Use),(⟨false,false,0,2,1⟩:Use),(⟨false,false,0,2,1⟩:Use),(⟨false,false,0,2,1⟩:Use),(⟨false,false,0,3,(-1)⟩:Use),(⟨false,false,0,1,(-1)⟩:Use),(⟨false,false,0,1,(-1)⟩:Use),(⟨false,false,0,3,2⟩:Use),(⟨true,false,0,0,(-1)⟩:Use)]:List Use)
theorem Qfx  (r:(List Use)) (h0:Qmv =some r):Fun Tryz.prog 107 [] (Qh [.agg (Q48 (r:List Use))]):=by
 unfold Qmv at h0
 refine Ko 9 15 Tryz.func107 Z Qk5 Z (Qq9 Z) (fun S w=>?_)
 simp only [J5]
 refine Q4<|Q0<|Qk Z Z (Qq9 Z) (QS Qhu Z)<|Q3<|Q5<|Q4<|Q0<|Qq0 Z Z Z (QK Jq Z Z Z Z)<|Qq0 Z Z Z (KC Jq Z Z Z)<|Qq0 Z Z Z (QK Jq Z Z Z Z)<|Qq0 Z Z Z (Q7s Jq Z Z Z Z Z)<|Qq0 Z Z Z (QK Jq Z Z Z Z)<|Qq0 Z Z Z (QK Jq Z Z Z Z)<|Qq0 Z Z Z (QK Jq Z Z Z Z) ?_
 refine Qq0 Z Z Z (QK Jq Z Z Z Z)<|Qq0 Z Z Z (QK Jq Z Z Z Z)<|Qq0 Z Z Z (QK Jq Z Z Z Z)<|Qq0 Z Z Z (QK Jq Z Z Z Z)<|Qq0 Z Z Z (QK Jq Z Z Z Z)<|Qq0 Z Z Z (QK Jq Z Z Z Z)<|Qq0 Z Z Z (Q0r Qkf Z (.cons Z (.cons Z (.cons Z (.cons Z (.cons Z (.cons Z (.cons Z (.cons Z (.cons Z (.cons Z (.cons Z (.cons Z (.cons Z .nil))))))))))))) Z)<|QR Z Z (Gu Q4z Z Z Z Z Z Z)<|Q3<|Q5<|QU ?_
 have e:=Qpy h0;subst e
 exact Zr (fun _ _ h=>h) Z (Zs Q4z Z Z Z Z .nil) (.cons (.agg (.cons (.d _) (.cons (.d _) (.cons (.d _) (.cons (.d _) (.cons (.d _) (.cons (.d _) (.cons (.d _) (.cons (.d _) (.cons (.d _) (.cons (.d _) (.cons (.d _) (.cons (.d _) (.cons (.d _) (.cons (.d _) (.cons (.d _) (.cons (.d _) (.cons (.d _) (.cons (.d _) (.cons (.d _) (.cons (.d _) (.cons (.d _) (.cons (.d _) (.cons (.d _) (.cons (.d _) (.cons (.d _) (.cons (.d _) (.cons (.d _) (.cons (.d _) (.cons (.d _) (.cons (.d _) (.cons (.d _) (.cons (.d _) (.cons (.d _) (.cons (.d _) (.cons (.d _) (.cons (.d _) (.cons (.d _) (.cons (.d _) (.cons (.d _) (.cons (.d _) (.cons (.d _) (.cons (.d _) (.cons (.d _) (.cons (.d _) (.cons (.d _) (.cons (.d _) (.cons (.d _) (.cons (.d _) (.cons (.d _) (.cons (.d _) (.cons (.d _) (.cons (.d _) (.cons (.d _) (.cons (.d _) (.cons (.d _) (.cons (.d _) (.cons (.d _) (.cons (.d _) (.cons (.d _) (.cons (.d _) (.cons (.d _) (.cons (.d _) (.cons (.d _) (.cons (.d _) (.cons (.d _) .nil)))))))))))))))))))))))))))))))))))))))))))))))))))))))))))))))))) .nil)
def Xg (a1:Lvl) (a0:Scp) (s1:Int):Option (LO Int (Unit⊕Int)) :=
 cond (decide (s1 < (a1.vs.length:Int)))
   (Option.bind (J0 a1.vs s1) fun (x5:Qrf) =>
 cond (decide (a0.params≤x5.1))
   (some (.done (.inr 15)))
   (some (.next (Qm (s1+1)))))
   (some (.done (.inl ())))
def Xf (a1:Lvl) (a0:Scp) (s1:Int):Option (LO Int (Unit⊕Int)) :=
 cond (decide (s1 < (a1.vs.length:Int)))
   (Option.bind (J0 a1.vs s1) fun (x6:Qrf) =>
 Option.bind (cond (decide (x6.1 < 0))
   (some (decide (a0.levels≤(Qm ((-1) - x6.1)))))
   (some false)) (fun (v7:Bool)=>cond v7
   (some (.done (.inr 23)))
   (some (.next (Qm (s1+1))))))
   (some (.done (.inl ())))
def Q04 (a0:Scp) (a1:Lvl):Option Int :=
 Option.bind (Q5e a1) fun (x1:Bool) =>
 cond (!x1)
   (some 3)
   (Option.bind (Q9 (Xg a1 a0) Qd 0) (Sum.elim (fun (o3:Unit)=>Option.bind (Q9 (Xf a1 a0) Qd 0) (Sum.elim (fun (o4:Unit)=>some 0) (fun o=>some o))) (fun o=>some o)))
def q111:KF UV:=⟨[.stc .t107,.stc .t82],[.int .i64],fun v=>Q04 v.1 v.2⟩
def Hq111:Hints UV:=⟨[(5,⟨[([.reg 15],.int .i64)],[],true⟩),(15,⟨[([.reg 28],.int .i64)],[],true⟩),(20,⟨[([.reg 42],.bool)],[],false⟩)],[]⟩
theorem q111_ok:Yb DV .any Tryz.prog 111 q111:=YL (C:=Qrk) rfl QC Ql (QB (tb:=[(136,q136)]) Ql ⟨Qf2,trivial⟩) JH Tryz.func111 en_111 Hq111 q111 rfl (fun v=>by kernel_rfl)
def Q8w (p0_:Bool) (p1_:Tm):Option Bool :=
 cond p0_
   (some false)
   (Option.bind (Qmv ) fun (b0_:(List Use)) =>
 Option.bind (J0 b0_ p1_.kind) fun (b1_:Use) =>
 Q7 (Nat.beq b0_.length 13)
 (Option.bind (cond b1_.index
   (cond b1_.name
   (cond (decide (b1_.levels < 0))
   (some ((p1_.kids.length:Int)==b1_.kids))
   (cond ((p1_.levels.length:Int)==b1_.levels)
   (some ((p1_.kids.length:Int)==b1_.kids))
   (some false)))
   (cond (p1_.name==([]:List UInt8))
   (cond (decide (b1_.levels < 0))
   (some ((p1_.kids.length:Int)==b1_.kids))
   (cond ((p1_.levels.length:Int)==b1_.levels)
   (some ((p1_.kids.length:Int)==b1_.kids))
   (some false)))
   (some false)))
   (cond (p1_.index==0)
   (cond b1_.name
   (cond (decide (b1_.levels < 0))
   (some ((p1_.kids.length:Int)==b1_.kids))
   (cond ((p1_.levels.length:Int)==b1_.levels)
   (some ((p1_.kids.length:Int)==b1_.kids))
   (some false)))
   (cond (p1_.name==([]:List UInt8))
   (cond (decide (b1_.levels < 0))
   (some ((p1_.kids.length:Int)==b1_.kids))
   (cond ((p1_.levels.length:Int)==b1_.levels)
   (some ((p1_.kids.length:Int)==b1_.kids))
   (some false)))
   (some false)))
   (some false))) (fun (b2_:Bool)=>some b2_)))
def WU (a0:Tm):Option Bool :=
 Option.bind (cond (decide (a0.kind < 0))
   (some true)
   (some (decide (13≤a0.kind)))) (fun (v1:Bool)=>Q8w v1 a0)
theorem m109_ok (a0:Tm) (r:Bool) (h0:WU a0=some r):Fun Tryz.prog 109 [.agg (Qqt a0)] (Qh [.one (Qqq r)]):=by
 unfold WU at h0
 refine Ko 9 53 Tryz.func109 Z en_109 Z (Qq9 Z) (fun S w=>?_)
 simp only [J5]
 refine Q4<|Q0<|Qk Z Z (Qq9 Z) (Y2 Z)<|Qq2 Z Z Z<|Q3<|Q5<|Q4<|Q4 ?_
 refine Jr (fun (v1:Bool)=>⟨[(1,.v (.one (.ptr 0 0))),(11,.v (.one (Qqq v1)))],[(0,.cells 25 (Qqt a0))],[],1,53,[]⟩) (fun (v1:Bool)=>(Q8w v1 a0)=some r) ?_ ?_
 refine Qv h0 (fun w1_ h1 h0=>?_)
 refine Q0<|Qq0 Z Z Z (Q2 Xm Z)<|Qq0 Z Z Z (Q6 Y1 Z Z Z)<|Qq0 Z Z Z (Qb Z Z Z)<|Qq1 Z Z Z ?_
 refine J1 (d:=7) (c:=(decide (a0.kind < 0))) Z (fun c2=>?_) (fun c2=>?_)
 replace h1:=QF c2 h1
 refine Q8 Z Z<|Q8 Z Z<|Q8 Z Z<|Qq0 Z Z Z (Qn Z Z)<|Q3 ?_
 have e:=Qpy h1;subst e
 exact Qj true (Qpx (Co _) Z Z Z Z Z) h0
 replace h1:=QG c2 h1
 refine Qq0 Z Z Z (Q2 Xm Z)<|Qq0 Z Z Z (Q6 Y1 Z Z Z)<|Qq0 Z Z Z (Qb Z Z Z)<|Qq0 Z Z Z (Qz Z Z)<|Q3 ?_
 have e:=Qpy h1;subst e
 exact Qj (decide (13≤a0.kind)) (Qpx (Co _) Z Z Z Z Z) h0
 intro v1 h0
 unfold Q8w at h0
 refine Q5 ?_
 refine Qy (b:=v1) Z (fun c3=>?_) (fun c3=>?_)
 replace h0:=QF c3 h0
 refine Q4<|Q0<|Qq2 Z Z Z<|Q3<|Q5<|QU ?_
 have e:=Qpy h0;subst e
 exact Zr (fun _ _ h=>h) Z (Jk Z .nil) (.cons (.one (.d _)) .nil)
 replace h0:=QG c3 h0
 refine QY<|Q5<|Q4 ?_
 refine YG [4,5] [(0,1),(1,1),(2,1),(3,1)] mixed (by kernel_rfl) (by kernel_rfl) (by kernel_rfl) ?_
 refine Qv h0 (fun x4 hx4 h0=>?_)
 refine RunA.rd Z Z Z (Ya (Qfx  x4 hx4) Z .nil) Z<|RunA.rd Z Z Z (Qa (Q2 Xm Z)) Z<|RunA.rd Z Z Z (Qa (Q6 Y1 Z Z Z)) Z ?_
 refine Qv h0 (fun x5 hx5 h0=>?_)
 refine UA h0 (fun g6 h0=>?_)
 refine RunA.rd Z Z Z (Qa (Q1s (α:=Use) (tbl:=x4) Qkk Z Z g6 Z hx5)) Z<|RunA.eff Z Z Z (QS z_155 Z) Z<|RunA.eff Z Z Z (Zt (x5:Use) ag_155 Z Z Z Z Z) Z ?_
 refine RunA.nil ⟨?ex,_,_,Z,?_⟩
 case ex=>exact ⟨⟨_,rfl,_,_,rfl,rfl,rfl,.inl ⟨rfl,_,Ya (Qfx  x4 hx4) rfl .nil,rfl⟩⟩,⟨_,rfl,_,_,rfl,rfl,rfl,.inl ⟨rfl,_,Qa (Q2 Xm rfl),rfl⟩⟩,⟨_,rfl,_,_,rfl,rfl,rfl,.inl ⟨rfl,_,Qa (Q6 Y1 rfl rfl rfl),rfl⟩⟩,⟨_,rfl,_,_,rfl,rfl,rfl,.inl ⟨rfl,_,Qa (Q1s (α:=Use) (tbl:=x4) Qkk rfl rfl g6 rfl hx5),rfl⟩⟩,trivial⟩
 refine Xq (st':=⟨[(1,.v (.one (.ptr 0 0))),(3,.v (.one (.ptr 1 0)))],[(0,.cells 25 (Qqt a0)),(1,.cells 155 (Qqt x5))],[],2,53,[]⟩) (Qpx (Co _) Z Z Z Z Z)<|Q5<|Q4 ?_
 refine Jr (fun (v7:Bool)=>⟨[(2,.v (.one (Qqq v7)))],[(0,.cells 25 (Qqt a0)),(1,.cells 155 (Qqt x5))],[],2,53,[]⟩) (fun (v7:Bool)=>(some v7)=some r) ?_ ?_
 refine Qv h0 (fun w1_ h1 h0=>?_)
 refine Q0<|Qq0 Z Z Z (Q2 fo_155_0 Z)<|Qq0 Z Z Z (Q6 Qch Z Z Z)<|Qq1 Z Z Z ?_
 refine J1 (d:=18) (c:=x5.index) Z (fun c8=>?_) (fun c8=>?_)
 replace h1:=QF c8 h1
 refine Q8 Z Z<|Q8 Z Z<|Q8 Z Z<|Qq0 Z Z Z (Qn Z Z)<|Qq1 Z Z Z<|Qq0 Z Z Z (Q2 Qbu Z)<|Qq0 Z Z Z (Q6 Qch Z Z Z)<|Qq1 Z Z Z ?_
 refine J1 (d:=26) (c:=x5.name) Z (fun c9=>?_) (fun c9=>?_)
 replace h1:=QF c9 h1
 refine Q8 Z Z<|Q8 Z Z<|Q8 Z Z<|Qq0 Z Z Z (Qn Z Z)<|Qq0 Z Z Z (Qn Z Z)<|Qq1 Z Z Z<|Qq0 Z Z Z (Q2 K0 Z)<|Qq0 Z Z Z (Q6 Y1 Z Z Z)<|Qq0 Z Z Z (Qb Z Z Z)<|Qq1 Z Z Z ?_
 refine J1 (d:=36) (c:=(decide (x5.levels < 0))) Z (fun c10=>?_) (fun c10=>?_)
 replace h1:=QF c10 h1
 refine Q8 Z Z<|Q8 Z Z<|Q8 Z Z<|Q8 Z Z<|Q8 Z Z<|Q8 Z Z<|Qq0 Z Z Z (Qn Z Z)<|Qq0 Z Z Z (Qn Z Z)<|Qq1 Z Z Z<|Qq0 Z Z Z (Q2 Kl Z)<|Qq0 Z Z Z (Q6 Dy Z Z Z)<|Qq0 Z Z Z (JG (α:=Tm) WX Z (.d _))<|Qq0 Z Z Z (Q2 ZZ Z)<|Qq0 Z Z Z (Q6 Y1 Z Z Z) ?_
 refine Qq0 Z Z Z (Qb Z Z Z)<|Qq0 Z Z Z (Qn Z Z)<|Qq2 Z Z Z<|Q3 ?_
 have e:=Qpy h1;subst e
 exact Qj ((a0.kids.length:Int)==x5.kids) (Qpx (Co _) Z Z Z Z Z) h0
 replace h1:=QG c10 h1
 refine Qq0 Z Z Z (Q2 Q2j Z)<|Qq0 Z Z Z (Q6 Qh6 Z Z Z)<|Qq0 Z Z Z (JG (α:=Lvl) Qes Z (.d _))<|Qq0 Z Z Z (Q2 K0 Z)<|Qq0 Z Z Z (Q6 Y1 Z Z Z)<|Qq0 Z Z Z (Qb Z Z Z)<|Qq0 Z Z Z (Qz Z Z)<|Qq0 Z Z Z (Qn Z Z)<|Qq1 Z Z Z ?_
 refine J1 (d:=45) (c:=((a0.levels.length:Int)==x5.levels)) Z (fun c11=>?_) (fun c11=>?_)
 replace h1:=QF c11 h1
 refine Qq0 Z Z Z (Q2 Kl Z)<|Qq0 Z Z Z (Q6 Dy Z Z Z)<|Qq0 Z Z Z (JG (α:=Tm) WX Z (.d _))<|Qq0 Z Z Z (Q2 ZZ Z)<|Qq0 Z Z Z (Q6 Y1 Z Z Z)<|Qq0 Z Z Z (Qb Z Z Z)<|Qq0 Z Z Z (Qn Z Z)<|Qq2 Z Z Z<|Q3 ?_
 have e:=Qpy h1;subst e
 exact Qj ((a0.kids.length:Int)==x5.kids) (Qpx (Co _) Z Z Z Z Z) h0
 replace h1:=QG c11 h1
 refine Q8 Z Z<|Q8 Z Z<|Q8 Z Z<|Q8 Z Z<|Q8 Z Z<|Q8 Z Z<|Qq0 Z Z Z (Qz Z Z)<|Qq2 Z Z Z<|Q3 ?_
 have e:=Qpy h1;subst e
 exact Qj false (Qpx (Co _) Z Z Z Z Z) h0
 replace h1:=QG c9 h1
 refine Qq0 Z Z Z (Q2 Qgn Z)<|Qq0 Z Z Z (Q6 Q0q Z Z Z)<|Qq0 Z Z Z (Qec Z Z)<|Qq0 Z Z Z (Qz Z Z)<|Qq0 Z Z Z (Qn Z Z)<|Qq1 Z Z Z ?_
 refine J1 (d:=32) (c:=(a0.name==([]:List UInt8))) Z (fun c12=>?_) (fun c12=>?_)
 replace h1:=QF c12 h1
 refine Qq0 Z Z Z (Q2 K0 Z)<|Qq0 Z Z Z (Q6 Y1 Z Z Z)<|Qq0 Z Z Z (Qb Z Z Z)<|Qq1 Z Z Z ?_
 refine J1 (d:=36) (c:=(decide (x5.levels < 0))) Z (fun c13=>?_) (fun c13=>?_)
 replace h1:=QF c13 h1
 refine Q8 Z Z<|Q8 Z Z<|Q8 Z Z<|Q8 Z Z<|Q8 Z Z<|Q8 Z Z<|Qq0 Z Z Z (Qn Z Z)<|Qq0 Z Z Z (Qn Z Z)<|Qq1 Z Z Z<|Qq0 Z Z Z (Q2 Kl Z)<|Qq0 Z Z Z (Q6 Dy Z Z Z)<|Qq0 Z Z Z (JG (α:=Tm) WX Z (.d _))<|Qq0 Z Z Z (Q2 ZZ Z)<|Qq0 Z Z Z (Q6 Y1 Z Z Z) ?_
 refine Qq0 Z Z Z (Qb Z Z Z)<|Qq0 Z Z Z (Qn Z Z)<|Qq2 Z Z Z<|Q3 ?_
 have e:=Qpy h1;subst e
 exact Qj ((a0.kids.length:Int)==x5.kids) (Qpx (Co _) Z Z Z Z Z) h0
 replace h1:=QG c13 h1
 refine Qq0 Z Z Z (Q2 Q2j Z)<|Qq0 Z Z Z (Q6 Qh6 Z Z Z)<|Qq0 Z Z Z (JG (α:=Lvl) Qes Z (.d _))<|Qq0 Z Z Z (Q2 K0 Z)<|Qq0 Z Z Z (Q6 Y1 Z Z Z)<|Qq0 Z Z Z (Qb Z Z Z)<|Qq0 Z Z Z (Qz Z Z)<|Qq0 Z Z Z (Qn Z Z)<|Qq1 Z Z Z ?_
 refine J1 (d:=45) (c:=((a0.levels.length:Int)==x5.levels)) Z (fun c14=>?_) (fun c14=>?_)
 replace h1:=QF c14 h1
 refine Qq0 Z Z Z (Q2 Kl Z)<|Qq0 Z Z Z (Q6 Dy Z Z Z)<|Qq0 Z Z Z (JG (α:=Tm) WX Z (.d _))<|Qq0 Z Z Z (Q2 ZZ Z)<|Qq0 Z Z Z (Q6 Y1 Z Z Z)<|Qq0 Z Z Z (Qb Z Z Z)<|Qq0 Z Z Z (Qn Z Z)<|Qq2 Z Z Z<|Q3 ?_
 have e:=Qpy h1;subst e
 exact Qj ((a0.kids.length:Int)==x5.kids) (Qpx (Co _) Z Z Z Z Z) h0
 replace h1:=QG c14 h1
 refine Q8 Z Z<|Q8 Z Z<|Q8 Z Z<|Q8 Z Z<|Q8 Z Z<|Q8 Z Z<|Qq0 Z Z Z (Qz Z Z)<|Qq2 Z Z Z<|Q3 ?_
 have e:=Qpy h1;subst e
 exact Qj false (Qpx (Co _) Z Z Z Z Z) h0
 replace h1:=QG c12 h1
 refine Q8 Z Z<|Q8 Z Z<|Q8 Z Z<|Q8 Z Z<|Q8 Z Z<|Q8 Z Z<|Q8 Z Z<|Q8 Z Z<|Q8 Z Z<|Q8 Z Z<|Q8 Z Z<|Qq0 Z Z Z (Qz Z Z)<|Qq1 Z Z Z<|Q8 Z Z ?_
 refine Q8 Z Z<|Q8 Z Z<|Q8 Z Z<|Q8 Z Z<|Q8 Z Z<|Qq0 Z Z Z (Qz Z Z)<|Qq2 Z Z Z<|Q3 ?_
 have e:=Qpy h1;subst e
 exact Qj false (Qpx (Co _) Z Z Z Z Z) h0
 replace h1:=QG c8 h1
 refine Qq0 Z Z Z (Q2 fo_25_1 Z)<|Qq0 Z Z Z (Q6 Y1 Z Z Z)<|Qq0 Z Z Z (Qb Z Z Z)<|Qq0 Z Z Z (Qz Z Z)<|Qq1 Z Z Z ?_
 refine J1 (d:=23) (c:=(a0.index==0)) Z (fun c15=>?_) (fun c15=>?_)
 replace h1:=QF c15 h1
 refine Qq0 Z Z Z (Q2 Qbu Z)<|Qq0 Z Z Z (Q6 Qch Z Z Z)<|Qq1 Z Z Z ?_
 refine J1 (d:=26) (c:=x5.name) Z (fun c16=>?_) (fun c16=>?_)
 replace h1:=QF c16 h1
 refine Q8 Z Z<|Q8 Z Z<|Q8 Z Z<|Qq0 Z Z Z (Qn Z Z)<|Qq0 Z Z Z (Qn Z Z)<|Qq1 Z Z Z<|Qq0 Z Z Z (Q2 K0 Z)<|Qq0 Z Z Z (Q6 Y1 Z Z Z)<|Qq0 Z Z Z (Qb Z Z Z)<|Qq1 Z Z Z ?_
 refine J1 (d:=36) (c:=(decide (x5.levels < 0))) Z (fun c17=>?_) (fun c17=>?_)
 replace h1:=QF c17 h1
 refine Q8 Z Z<|Q8 Z Z<|Q8 Z Z<|Q8 Z Z<|Q8 Z Z<|Q8 Z Z<|Qq0 Z Z Z (Qn Z Z)<|Qq0 Z Z Z (Qn Z Z)<|Qq1 Z Z Z<|Qq0 Z Z Z (Q2 Kl Z)<|Qq0 Z Z Z (Q6 Dy Z Z Z)<|Qq0 Z Z Z (JG (α:=Tm) WX Z (.d _))<|Qq0 Z Z Z (Q2 ZZ Z)<|Qq0 Z Z Z (Q6 Y1 Z Z Z) ?_
 refine Qq0 Z Z Z (Qb Z Z Z)<|Qq0 Z Z Z (Qn Z Z)<|Qq2 Z Z Z<|Q3 ?_
 have e:=Qpy h1;subst e
 exact Qj ((a0.kids.length:Int)==x5.kids) (Qpx (Co _) Z Z Z Z Z) h0
 replace h1:=QG c17 h1
 refine Qq0 Z Z Z (Q2 Q2j Z)<|Qq0 Z Z Z (Q6 Qh6 Z Z Z)<|Qq0 Z Z Z (JG (α:=Lvl) Qes Z (.d _))<|Qq0 Z Z Z (Q2 K0 Z)<|Qq0 Z Z Z (Q6 Y1 Z Z Z)<|Qq0 Z Z Z (Qb Z Z Z)<|Qq0 Z Z Z (Qz Z Z)<|Qq0 Z Z Z (Qn Z Z)<|Qq1 Z Z Z ?_
 refine J1 (d:=45) (c:=((a0.levels.length:Int)==x5.levels)) Z (fun c18=>?_) (fun c18=>?_)
 replace h1:=QF c18 h1
 refine Qq0 Z Z Z (Q2 Kl Z)<|Qq0 Z Z Z (Q6 Dy Z Z Z)<|Qq0 Z Z Z (JG (α:=Tm) WX Z (.d _))<|Qq0 Z Z Z (Q2 ZZ Z)<|Qq0 Z Z Z (Q6 Y1 Z Z Z)<|Qq0 Z Z Z (Qb Z Z Z)<|Qq0 Z Z Z (Qn Z Z)<|Qq2 Z Z Z<|Q3 ?_
 have e:=Qpy h1;subst e
 exact Qj ((a0.kids.length:Int)==x5.kids) (Qpx (Co _) Z Z Z Z Z) h0
 replace h1:=QG c18 h1
 refine Q8 Z Z<|Q8 Z Z<|Q8 Z Z<|Q8 Z Z<|Q8 Z Z<|Q8 Z Z<|Qq0 Z Z Z (Qz Z Z)<|Qq2 Z Z Z<|Q3 ?_
 have e:=Qpy h1;subst e
 exact Qj false (Qpx (Co _) Z Z Z Z Z) h0
 replace h1:=QG c16 h1
 refine Qq0 Z Z Z (Q2 Qgn Z)<|Qq0 Z Z Z (Q6 Q0q Z Z Z)<|Qq0 Z Z Z (Qec Z Z)<|Qq0 Z Z Z (Qz Z Z)<|Qq0 Z Z Z (Qn Z Z)<|Qq1 Z Z Z ?_
 refine J1 (d:=32) (c:=(a0.name==([]:List UInt8))) Z (fun c19=>?_) (fun c19=>?_)
 replace h1:=QF c19 h1
 refine Qq0 Z Z Z (Q2 K0 Z)<|Qq0 Z Z Z (Q6 Y1 Z Z Z)<|Qq0 Z Z Z (Qb Z Z Z)<|Qq1 Z Z Z ?_
 refine J1 (d:=36) (c:=(decide (x5.levels < 0))) Z (fun c20=>?_) (fun c20=>?_)
 replace h1:=QF c20 h1
 refine Q8 Z Z<|Q8 Z Z<|Q8 Z Z<|Q8 Z Z<|Q8 Z Z<|Q8 Z Z<|Qq0 Z Z Z (Qn Z Z)<|Qq0 Z Z Z (Qn Z Z)<|Qq1 Z Z Z<|Qq0 Z Z Z (Q2 Kl Z)<|Qq0 Z Z Z (Q6 Dy Z Z Z)<|Qq0 Z Z Z (JG (α:=Tm) WX Z (.d _))<|Qq0 Z Z Z (Q2 ZZ Z)<|Qq0 Z Z Z (Q6 Y1 Z Z Z) ?_
 refine Qq0 Z Z Z (Qb Z Z Z)<|Qq0 Z Z Z (Qn Z Z)<|Qq2 Z Z Z<|Q3 ?_
 have e:=Qpy h1;subst e
 exact Qj ((a0.kids.length:Int)==x5.kids) (Qpx (Co _) Z Z Z Z Z) h0
 replace h1:=QG c20 h1
 refine Qq0 Z Z Z (Q2 Q2j Z)<|Qq0 Z Z Z (Q6 Qh6 Z Z Z)<|Qq0 Z Z Z (JG (α:=Lvl) Qes Z (.d _))<|Qq0 Z Z Z (Q2 K0 Z)<|Qq0 Z Z Z (Q6 Y1 Z Z Z)<|Qq0 Z Z Z (Qb Z Z Z)<|Qq0 Z Z Z (Qz Z Z)<|Qq0 Z Z Z (Qn Z Z)<|Qq1 Z Z Z ?_
 refine J1 (d:=45) (c:=((a0.levels.length:Int)==x5.levels)) Z (fun c21=>?_) (fun c21=>?_)
 replace h1:=QF c21 h1
 refine Qq0 Z Z Z (Q2 Kl Z)<|Qq0 Z Z Z (Q6 Dy Z Z Z)<|Qq0 Z Z Z (JG (α:=Tm) WX Z (.d _))<|Qq0 Z Z Z (Q2 ZZ Z)<|Qq0 Z Z Z (Q6 Y1 Z Z Z)<|Qq0 Z Z Z (Qb Z Z Z)<|Qq0 Z Z Z (Qn Z Z)<|Qq2 Z Z Z<|Q3 ?_
 have e:=Qpy h1;subst e
 exact Qj ((a0.kids.length:Int)==x5.kids) (Qpx (Co _) Z Z Z Z Z) h0
 replace h1:=QG c21 h1
 refine Q8 Z Z<|Q8 Z Z<|Q8 Z Z<|Q8 Z Z<|Q8 Z Z<|Q8 Z Z<|Qq0 Z Z Z (Qz Z Z)<|Qq2 Z Z Z<|Q3 ?_
 have e:=Qpy h1;subst e
 exact Qj false (Qpx (Co _) Z Z Z Z Z) h0
 replace h1:=QG c19 h1
 refine Q8 Z Z<|Q8 Z Z<|Q8 Z Z<|Q8 Z Z<|Q8 Z Z<|Q8 Z Z<|Q8 Z Z<|Q8 Z Z<|Q8 Z Z<|Q8 Z Z<|Q8 Z Z<|Qq0 Z Z Z (Qz Z Z)<|Qq1 Z Z Z<|Q8 Z Z ?_
 refine Q8 Z Z<|Q8 Z Z<|Q8 Z Z<|Q8 Z Z<|Q8 Z Z<|Qq0 Z Z Z (Qz Z Z)<|Qq2 Z Z Z<|Q3 ?_
 have e:=Qpy h1;subst e
 exact Qj false (Qpx (Co _) Z Z Z Z Z) h0
 replace h1:=QG c15 h1
 refine Q8 Z Z<|Q8 Z Z<|Q8 Z Z<|Q8 Z Z<|Q8 Z Z<|Q8 Z Z<|Q8 Z Z<|Qq0 Z Z Z (Qz Z Z)<|Qq1 Z Z Z<|Q8 Z Z<|Q8 Z Z<|Q8 Z Z<|Q8 Z Z<|Q8 Z Z ?_
 refine Q8 Z Z<|Q8 Z Z<|Q8 Z Z<|Q8 Z Z<|Q8 Z Z<|Q8 Z Z<|Qq0 Z Z Z (Qz Z Z)<|Qq1 Z Z Z<|Q8 Z Z<|Q8 Z Z<|Q8 Z Z<|Q8 Z Z<|Q8 Z Z<|Q8 Z Z ?_
 refine Qq0 Z Z Z (Qz Z Z)<|Qq2 Z Z Z<|Q3 ?_
 have e:=Qpy h1;subst e
 exact Qj false (Qpx (Co _) Z Z Z Z Z) h0
 intro v7 h0
 refine Q5<|QU ?_
 have e:=Qpy h0;subst e
 exact Zr (fun _ _ h=>h) Z (Jk Z .nil) (.cons (.one (.d _)) .nil)
def q109:KF UV:=⟨[.stc .t25],[.bool],fun v=>WU v⟩
theorem q109_ok:Yb DV .any Tryz.prog 109 q109:=⟨rfl,fun v r h=>DJ (Eq.mp (show _=Fun Tryz.prog 109 (QM DV q109.args v) (Qh (QM DV q109.res r)) from by kernel_rfl) (m109_ok v r h))⟩
def Yu (a1:Tm) (a0:Scp) (s1:Int):Option (LO Int (Unit⊕Int)) :=
 cond (decide (s1 < (a1.levels.length:Int)))
   (Option.bind (J0 a1.levels s1) fun (x9:Lvl) =>
 Option.bind (Q04 a0 x9) fun (x10:Int) =>
 cond (x10 != 0)
   (some (.done (.inr x10)))
   (some (.next (Qm (s1+1)))))
   (some (.done (.inl ())))
def ZC (p0_:Tm) (p1_:Scp) (p2_:Int):Option Int :=
 Option.bind (cond (p0_.kind==0)
   (cond (decide (p0_.index < 0))
   (some true)
   (some (decide (p1_.vars≤(Qm (p0_.index - p2_))))))
   (some false)) (fun (b0_:Bool)=>cond b0_
   (some 24)
   (Option.bind (cond (p0_.kind==12)
   (cond (decide (p0_.index < 0))
   (some true)
   (some (decide (p1_.metas≤p0_.index))))
   (some false)) (fun (b1_:Bool)=>cond b1_
   (some 23)
   (some 0))))
def Qhq (a0:Scp) (a1:Tm) (a2:Int):Option Int :=
 Option.bind (WU a1) fun (x1:Bool) =>
 cond (!x1)
   (some 3)
   (cond (a1.kind==3)
   (Option.bind (Q05 a1.name) fun (x4:Bool) =>
 cond (!x4)
   (some 29)
   (cond (decide (8 < (a1.levels.length:Int)))
   (some 6)
   (Option.bind (Q9 (Yu a1 a0) Qd 0) (Sum.elim (fun (o7:Unit)=>ZC a1 a0 a2) (fun o=>some o)))))
   (Option.bind (Q9 (Yu a1 a0) Qd 0) (Sum.elim (fun (o21:Unit)=>ZC a1 a0 a2) (fun o=>some o))))
def Qpa (a0:Scp) (a1:Tm) (a2:Int):Option (Int) :=
 Option.bind (WU a1) fun (x1:Bool)=>cond ((!x1)) (some 3) (Option.bind (α:=Unit⊕Int) (cond ((a1.kind==3)) (Option.bind (Q05 a1.name) fun (x4:Bool)=>cond ((!x4)) (some (.inr 29)) (cond ((decide (8 < (a1.levels.length:Int)))) (some (.inr 6)) (some (.inl ())))) (some (.inl ()))) (Sum.elim (fun (v3:Unit)=>Option.bind (Q9 (σ:=Int) (β:=Unit⊕Int) (fun s8=>cond ((decide (s8 < (a1.levels.length:Int)))) (Option.bind (J0 a1.levels s8) fun (x10:Lvl)=>Option.bind (Q04 a0 x10) fun (x11:Int)=>cond ((x11 != 0)) (some (.done (.inr x11))) (some (.next (Qm (s8+1))))) (some (.done (.inl ())))) Qd 0) (Sum.elim (fun (v9:Unit)=>Option.bind (cond ((a1.kind==0)) (cond ((decide (a1.index < 0))) (some true) (some (decide (a0.vars≤(Qm (a1.index - a2)))))) (some false)) fun (v12:Bool)=>cond v12 (some 24) (Option.bind (cond ((a1.kind==12)) (cond ((decide (a1.index < 0))) (some true) (some (decide (a0.metas≤a1.index)))) (some false)) fun (v13:Bool)=>cond v13 (some 23) (some 0))) (fun (o14:Int)=>some o14))) (fun (o5:Int)=>some o5)))
def p59:KF UV:=⟨[.stc .t107,.stc .t25,.int .i64],[.int .i64],fun v=>Qpa v.1 v.2.1 v.2.2⟩
def Hq59:Hints UV:=⟨[(5,⟨[],[],true⟩),(13,⟨[([.reg 27],.int .i64)],[],true⟩),(24,⟨[([.reg 38],.bool)],[],false⟩),(27,⟨[([.reg 56],.bool)],[],false⟩)],[]⟩
theorem p59_ok:Yb DV .any Tryz.prog 59 p59:=YL (C:=Qrk) rfl QC Ql (QB (tb:=[(109,q109),(110,q110),(111,q111)]) Ql ⟨q109_ok,Qf3,q111_ok,trivial⟩) JH Tryz.func59 en_59 Hq59 p59 rfl (fun v=>by kernel_rfl)
theorem n59_eq (a0:Scp) (a1:Tm) (a2:Int):Qpa a0 a1 a2=Qhq a0 a1 a2:=by
 unfold Qpa Qhq
 cases WU a1 with
 | none=>rfl
 | some x1=>cases x1 with
   | false=>rfl
   | true =>
     cases hk:(a1.kind==3) with
     | false=>rfl
     | true=>cases Q05 a1.name with
       | none=>rfl
       | some x4=>cases x4 with
         | false=>rfl
         | true=>cases (decide (8 < (a1.levels.length:Int))) <;> rfl
def q59:KF UV:=⟨[.stc .t107,.stc .t25,.int .i64],[.int .i64],fun v=>Qhq v.1 v.2.1 v.2.2⟩
theorem q59_ok:Yb DV .any Tryz.prog 59 q59:=⟨rfl,fun v r h=>p59_ok.2 v r ((n59_eq v.1 v.2.1 v.2.2).trans h)⟩
theorem m59_ok (a0:Scp) (a1:Tm) (a2:Int) (r:Int) (h0:Qhq a0 a1 a2=some r):Fun Tryz.prog 59 [.agg (Qqt a0),.agg (Qqt a1),.one (Qqp a2)] (Qh [.one (Qqp r)]):=FunW.any (Eq.mp (show FunW .any Tryz.prog 59 (QM DV q59.args (a0,a1,a2)) (Qh (QM DV q59.res r))=_ from by kernel_rfl) (q59_ok.2 (a0,a1,a2) r h0))
def GF (p0_:Tm×Int×Tm×Int×Scp×Int×Tm→Option ((Int×Int)⊕(Bool×Int))) (p1_:Tm) (p2_:Int) (p3_:Tm) (p4_:Int) (p5_:Scp) (p6_:Int×Int) (p7_:Tm):Option (LO (Int×Int) (Int⊕((Int×Int)⊕(Bool×Int)))) :=
 Option.bind (p0_ (p1_,p2_,p3_,p4_,p5_,p6_.2,p7_)) (Sum.elim (fun (b0_:Int×Int)=>some (.done (.inr (.inl (b0_.1,b0_.2))))) (fun (b1_:Bool×Int)=>cond (!b1_.1)
   (some (.done (.inr (.inr (false,b1_.2)))))
   (some (.next ((Qm (p6_.1+1)),b1_.2)))))
def Yf (a0:Tm) (v9:Int) (a1:Int) (rc:Tm×Int×Tm×Int×Scp×Int×Tm→Option ((Int×Int)⊕(Bool×Int))) (a2:Tm) (a3:Int) (a4:Scp) (a6:Tm) (s1:Int×Int):Option (LO (Int×Int) (Int⊕((Int×Int)⊕(Bool×Int)))) :=
 cond (decide (s1.1 < (a0.kids.length:Int)))
   (Option.bind (J0 a0.kids s1.1) fun (x12:Tm) =>
 Option.bind (cond (s1.1==v9)
   (some (Qm (a1+1)))
   (some a1)) (fun (v13:Int)=>GF rc x12 v13 a2 a3 a4 s1 a6))
   (some (.done (.inl s1.2)))
def ZG (p0_:Bool) (p1_:Tm) (p2_:Int) (p3_:Tm×Int×Tm×Int×Scp×Int×Tm→Option ((Int×Int)⊕(Bool×Int))) (p4_:Tm) (p5_:Int) (p6_:Scp) (p7_:Tm) (p8_:Int):Option ((Int×Int)⊕(Bool×Int)) :=
 Option.bind (cond p0_
   (Q7 (cond (decide (0≤p1_.kind)) (Nat.blt p1_.kind.toNat 13) false)
 (Option.bind (J0 ([(-1),(-1),(-1),(-1),(-1),1,1,1,(-1),(-1),(-1),2,(-1)]:List Int) p1_.kind) fun (b0_:Int) =>
 some b0_))
   (some (-1))) (fun (b1_:Int)=>Option.bind (Q9 (Yf p1_ b1_ p2_ p3_ p4_ p5_ p6_ p7_) Qd (0,(Qm (p8_+1)))) (Sum.elim (fun (b2_:Int)=>some (.inr (true,b2_))) (fun o=>some o)))
abbrev QJ :HB :=
 .loop .ready none [(5,.v (.one (.ptr 3 0))),(10,.v (.one (.ptr 4 0))),(11,.v (.one (.ptr 5 0))),(12,.v (.one (.ptr 6 0))),(26,.v (.one (.fn 106 [(7,0)])))] 45 #[27,28] Zh Yv 2
abbrev Qf :HB :=
 .cells 156 [Qqq true,Qqq false,Qqp 0,Qqp 0,Qqp (-1),Qqq false,Qqq false,Qqp 0,Qqp 0,Qqp (-1),Qqq false,Qqq false,Qqp 1,Qqp 0,Qqp (-1),Qqq false,Qqq true,Qqp (-1),Qqp 0,Qqp (-1),Qqq false,Qqq false,Qqp 0,Qqp 2,Qqp (-1),Qqq false,Qqq false,Qqp 0,Qqp 2,Qqp 1,Qqq false,Qqq false,Qqp 0,Qqp 2,Qqp 1,Qqq false,Qqq false,Qqp 0,Qqp 2,Qqp 1,Qqq false,Qqq false,Qqp 0,Qqp 3,Qqp (-1),Qqq false,Qqq false,Qqp 0,Qqp 1,Qqp (-1),Qqq false,Qqq false,Qqp 0,Qqp 1,Qqp (-1),Qqq false,Qqq false,Qqp 0,Qqp 3,Qqp 2,Qqq true,Qqq false,Qqp 0,Qqp 0,Qqp (-1)]
abbrev m108f3_h2 (p0_:Tm) (p1_:Int) (p2_:Scp) (p3_:Int) (p4_:Tm) (p5_:Tm):List (Nat×HB) :=
 [(0,.cells 153 [.yld 1]),(1,QJ),(2,.obj (.deferred (some []))),(3,.cells 25 (Qqt p0_)),(4,.cells 28 [Qqp p1_]),(5,.cells 107 (Qqt p2_)),(6,.cells 3 [Qqp p3_]),(7,.cells 25 (Qqt p4_)),(8,Qf),(9,.cells 26 [.fn 108 [(0,0),(8,0),(9,0)]]),(10,.cells 25 (Qqt p5_))]
abbrev Kw :HB :=
 .loop .busy none [(5,.v (.one (.ptr 3 0))),(10,.v (.one (.ptr 4 0))),(11,.v (.one (.ptr 5 0))),(12,.v (.one (.ptr 6 0))),(26,.v (.one (.fn 106 [(7,0)])))] 45 #[27,28] Zh Yv 2
abbrev WG (p0_:Tm) (p1_:Int) (p2_:Scp) (p3_:Int) (p4_:Tm) (p5_:Tm):List (Nat×HB) :=
 [(0,.cells 153 [.yld 1]),(1,Kw),(2,.obj (.deferred (some []))),(3,.cells 25 (Qqt p0_)),(4,.cells 28 [Qqp p1_]),(5,.cells 107 (Qqt p2_)),(6,.cells 3 [Qqp p3_]),(7,.cells 25 (Qqt p4_)),(8,Qf),(9,.cells 26 [.fn 108 [(0,0),(8,0),(9,0)]]),(10,.cells 25 (Qqt p5_)),(11,.cells 25 (Qqt p5_))]
abbrev m108f3_h5 (p0_:Tm) (p1_:Int) (p2_:Scp) (p3_:Int) (p4_:Tm) (p5_:Tm):List (Nat×HB) :=
 [(0,.cells 153 [.yld 1]),(1,QJ),(2,.obj (.deferred (some []))),(3,.cells 25 (Qqt p0_)),(4,.cells 28 [Qqp p1_]),(5,.cells 107 (Qqt p2_)),(6,.cells 3 [Qqp p3_]),(7,.cells 25 (Qqt p4_)),(8,Qf),(9,.cells 26 [.fn 108 [(0,0),(8,0),(9,0)]]),(10,.cells 25 (Qqt p5_)),(11,.cells 25 (Qqt p5_))]
abbrev WE (p0_:Tm) (p1_:Int) (p2_:Scp) (p3_:Int) (p4_:Tm) (p5_:Tm):List (Nat×HB) :=
 [(0,.cells 153 [.yld 1]),(1,Kw),(2,.obj (.deferred (some []))),(3,.cells 25 (Qqt p0_)),(4,.cells 28 [Qqp p1_]),(5,.cells 107 (Qqt p2_)),(6,.cells 3 [Qqp p3_]),(7,.cells 25 (Qqt p4_)),(8,Qf),(9,.cells 26 [.fn 108 [(0,0),(8,0),(9,0)]]),(10,.cells 25 (Qqt p5_))]
abbrev m108f3_h7 (p0_:Tm) (p1_:Int) (p2_:Scp) (p3_:Int×Int) (p4_:Tm) (p5_:Tm) (p6_:Tm):List (Nat×HB) :=
 [(0,.cells 153 [.yld 1]),(1,QJ),(2,.obj (.deferred (some []))),(3,.cells 25 (Qqt p0_)),(4,.cells 28 [Qqp p1_]),(5,.cells 107 (Qqt p2_)),(6,.cells 3 [Qqp p3_.2]),(7,.cells 25 (Qqt p4_)),(8,Qf),(9,.cells 26 [.fn 108 [(0,0),(8,0),(9,0)]]),(10,.cells 25 (Qqt p5_)),(12,.cells 25 (Qqt p6_))]
abbrev J6 :HB :=
 .loop .done (some .ret) [(5,.v (.one (.ptr 3 0))),(10,.v (.one (.ptr 4 0))),(11,.v (.one (.ptr 5 0))),(12,.v (.one (.ptr 6 0))),(26,.v (.one (.fn 106 [(7,0)])))] 45 #[27,28] Zh Yv 2
abbrev m108f3_h9 (p0_:Tm) (p1_:Int×Int) (p2_:Scp) (p3_:Tm):List (Nat×HB) :=
 [(0,.cells 153 [.yld 1]),(1,J6),(2,.obj (.deferred (some []))),(3,.cells 25 (Qqt p0_)),(4,.cells 28 [Qqp p1_.1]),(5,.cells 107 (Qqt p2_)),(6,.cells 3 [Qqp p1_.2]),(7,.cells 25 (Qqt p3_)),(8,Qf),(9,.cells 26 [.fn 108 [(0,0),(8,0),(9,0)]])]
abbrev m108f3_h10 (p0_:Tm) (p1_:Int) (p2_:Scp) (p3_:Bool×Int) (p4_:Tm):List (Nat×HB) :=
 [(0,.cells 153 [.yld 1]),(1,QJ),(2,.obj (.deferred (some []))),(3,.cells 25 (Qqt p0_)),(4,.cells 28 [Qqp p1_]),(5,.cells 107 (Qqt p2_)),(6,.cells 3 [Qqp p3_.2]),(7,.cells 25 (Qqt p4_)),(8,Qf),(9,.cells 26 [.fn 108 [(0,0),(8,0),(9,0)]])]
abbrev ZH (p0_:Tm) (p1_:Int) (p2_:Scp) (p3_:Int) (p4_:Tm):List (Nat×HB) :=
 [(0,.cells 153 [.yld 1]),(1,QJ),(2,.obj (.deferred (some []))),(3,.cells 25 (Qqt p0_)),(4,.cells 28 [Qqp p1_]),(5,.cells 107 (Qqt p2_)),(6,.cells 3 [Qqp p3_]),(7,.cells 25 (Qqt p4_)),(8,Qf),(9,.cells 26 [.fn 108 [(0,0),(8,0),(9,0)]])]
abbrev m108f3_h12 (p0_:Tm) (p1_:Int) (p2_:Scp) (p3_:Int) (p4_:Tm):List (Nat×HB) :=
 [(0,.cells 153 [.yld 1]),(1,J6),(2,.obj (.deferred (some []))),(3,.cells 25 (Qqt p0_)),(4,.cells 28 [Qqp p1_]),(5,.cells 107 (Qqt p2_)),(6,.cells 3 [Qqp p3_]),(7,.cells 25 (Qqt p4_)),(8,Qf),(9,.cells 26 [.fn 108 [(0,0),(8,0),(9,0)]])]
def Gc (rc:Tm×Int×Tm×Int×Scp×Int×Tm→Option ((Int×Int)⊕(Bool×Int))) (a0:Tm) (a1:Int) (a2:Tm) (a3:Int) (a4:Scp) (a5:Int) (a6:Tm):Option ((Int×Int)⊕(Bool×Int)) :=
 Option.bind (Option.bind (Qhq a4 a0 a1) fun (x6:Int) =>
 cond (x6 != 0)
   (some (.inr x6))
   (some (.inl ()))) (Sum.elim (fun (y1:Unit)=>Option.bind (cond (decide (0≤a0.kind))
   (some (decide (a0.kind < 13)))
   (some false)) (fun (v8:Bool)=>ZG v8 a0 a1 rc a2 a3 a4 a6 a5)) (fun (y2:Int)=>some (.inl (y2,a5))))
def Yp (rc:Tm×Int×Tm×Int×Scp×Int×Tm→Option ((Int×Int)⊕(Bool×Int))) (u:Tm×Int×Tm×Int×Scp×Int×Tm):Option ((Int×Int)⊕(Bool×Int)):=Gc rc u.1 u.2.1 u.2.2.1 u.2.2.2.1 u.2.2.2.2.1 u.2.2.2.2.2.1 u.2.2.2.2.2.2
def Q8x (a0:Tm) (a1:Int) (a2:Tm) (a3:Int) (a4:Scp) (a5:Int) (a6:Tm):Option ((Int×Int)⊕(Bool×Int)):=Jv Yp Qd (a0,a1,a2,a3,a4,a5,a6)
theorem m108f3s_ok (rc:Tm×Int×Tm×Int×Scp×Int×Tm→Option ((Int×Int)⊕(Bool×Int))) (H:∀ (a0:Tm) (a1:Int) (a2:Tm) (a3:Int) (a4:Scp) (a5:Int) (a6:Tm) (r:(Int×Int)⊕(Bool×Int)),rc (a0,a1,a2,a3,a4,a5,a6)=some r→CallE Tryz.prog 108 [.agg (Qqt a0),.one (Qqp a1),.one (.ptr 0 0),.one (.ptr 8 0),.one (.ptr 9 0)] ⟨ZH a2 a3 a4 a5 a6,[],10⟩ ((Sum.elim (fun (r0:Int×Int)=>((.ret [.one (Qqq false)]):EK)) (fun (r1:Bool×Int)=>((.ret [.one (Qqq r1.1)]):EK))) r) ⟨((Sum.elim (fun (r0:Int×Int)=>(⟨[(7,.v (.one (Qqq false)))],[(0,.cells 153 [.yld 1]),(1,J6),(2,.obj (.deferred (some []))),(3,.cells 25 (Qqt a2)),(4,.cells 28 [Qqp r0.1]),(5,.cells 107 (Qqt a4)),(6,.cells 3 [Qqp r0.2]),(7,.cells 25 (Qqt a6)),(8,Qf),(9,.cells 26 [.fn 108 [(0,0),(8,0),(9,0)]])],[],12,50,[]⟩:St)) (fun (r1:Bool×Int)=>(⟨[(7,.v (.one (Qqq r1.1)))],[(0,.cells 153 [.yld 1]),(1,QJ),(2,.obj (.deferred (some []))),(3,.cells 25 (Qqt a2)),(4,.cells 28 [Qqp a3]),(5,.cells 107 (Qqt a4)),(6,.cells 3 [Qqp r1.2]),(7,.cells 25 (Qqt a6)),(8,Qf),(9,.cells 26 [.fn 108 [(0,0),(8,0),(9,0)]])],[],12,50,[]⟩:St))) r).hp,((Sum.elim (fun (r0:Int×Int)=>(⟨[(7,.v (.one (Qqq false)))],[(0,.cells 153 [.yld 1]),(1,J6),(2,.obj (.deferred (some []))),(3,.cells 25 (Qqt a2)),(4,.cells 28 [Qqp r0.1]),(5,.cells 107 (Qqt a4)),(6,.cells 3 [Qqp r0.2]),(7,.cells 25 (Qqt a6)),(8,Qf),(9,.cells 26 [.fn 108 [(0,0),(8,0),(9,0)]])],[],12,50,[]⟩:St)) (fun (r1:Bool×Int)=>(⟨[(7,.v (.one (Qqq r1.1)))],[(0,.cells 153 [.yld 1]),(1,QJ),(2,.obj (.deferred (some []))),(3,.cells 25 (Qqt a2)),(4,.cells 28 [Qqp a3]),(5,.cells 107 (Qqt a4)),(6,.cells 3 [Qqp r1.2]),(7,.cells 25 (Qqt a6)),(8,Qf),(9,.cells 26 [.fn 108 [(0,0),(8,0),(9,0)]])],[],12,50,[]⟩:St))) r).tk,((Sum.elim (fun (r0:Int×Int)=>(⟨[(7,.v (.one (Qqq false)))],[(0,.cells 153 [.yld 1]),(1,J6),(2,.obj (.deferred (some []))),(3,.cells 25 (Qqt a2)),(4,.cells 28 [Qqp r0.1]),(5,.cells 107 (Qqt a4)),(6,.cells 3 [Qqp r0.2]),(7,.cells 25 (Qqt a6)),(8,Qf),(9,.cells 26 [.fn 108 [(0,0),(8,0),(9,0)]])],[],12,50,[]⟩:St)) (fun (r1:Bool×Int)=>(⟨[(7,.v (.one (Qqq r1.1)))],[(0,.cells 153 [.yld 1]),(1,QJ),(2,.obj (.deferred (some []))),(3,.cells 25 (Qqt a2)),(4,.cells 28 [Qqp a3]),(5,.cells 107 (Qqt a4)),(6,.cells 3 [Qqp r1.2]),(7,.cells 25 (Qqt a6)),(8,Qf),(9,.cells 26 [.fn 108 [(0,0),(8,0),(9,0)]])],[],12,50,[]⟩:St))) r).nx⟩) (a0:Tm) (a1:Int) (a2:Tm) (a3:Int) (a4:Scp) (a5:Int) (a6:Tm) (r:(Int×Int)⊕(Bool×Int)) (h0:Gc rc a0 a1 a2 a3 a4 a5 a6=some r):CallE Tryz.prog 108 [.agg (Qqt a0),.one (Qqp a1),.one (.ptr 0 0),.one (.ptr 8 0),.one (.ptr 9 0)] ⟨ZH a2 a3 a4 a5 a6,[],10⟩ ((Sum.elim (fun (r0:Int×Int)=>((.ret [.one (Qqq false)]):EK)) (fun (r1:Bool×Int)=>((.ret [.one (Qqq r1.1)]):EK))) r) ⟨((Sum.elim (fun (r0:Int×Int)=>(⟨[(7,.v (.one (Qqq false)))],[(0,.cells 153 [.yld 1]),(1,J6),(2,.obj (.deferred (some []))),(3,.cells 25 (Qqt a2)),(4,.cells 28 [Qqp r0.1]),(5,.cells 107 (Qqt a4)),(6,.cells 3 [Qqp r0.2]),(7,.cells 25 (Qqt a6)),(8,Qf),(9,.cells 26 [.fn 108 [(0,0),(8,0),(9,0)]])],[],12,50,[]⟩:St)) (fun (r1:Bool×Int)=>(⟨[(7,.v (.one (Qqq r1.1)))],[(0,.cells 153 [.yld 1]),(1,QJ),(2,.obj (.deferred (some []))),(3,.cells 25 (Qqt a2)),(4,.cells 28 [Qqp a3]),(5,.cells 107 (Qqt a4)),(6,.cells 3 [Qqp r1.2]),(7,.cells 25 (Qqt a6)),(8,Qf),(9,.cells 26 [.fn 108 [(0,0),(8,0),(9,0)]])],[],12,50,[]⟩:St))) r).hp,((Sum.elim (fun (r0:Int×Int)=>(⟨[(7,.v (.one (Qqq false)))],[(0,.cells 153 [.yld 1]),(1,J6),(2,.obj (.deferred (some []))),(3,.cells 25 (Qqt a2)),(4,.cells 28 [Qqp r0.1]),(5,.cells 107 (Qqt a4)),(6,.cells 3 [Qqp r0.2]),(7,.cells 25 (Qqt a6)),(8,Qf),(9,.cells 26 [.fn 108 [(0,0),(8,0),(9,0)]])],[],12,50,[]⟩:St)) (fun (r1:Bool×Int)=>(⟨[(7,.v (.one (Qqq r1.1)))],[(0,.cells 153 [.yld 1]),(1,QJ),(2,.obj (.deferred (some []))),(3,.cells 25 (Qqt a2)),(4,.cells 28 [Qqp a3]),(5,.cells 107 (Qqt a4)),(6,.cells 3 [Qqp r1.2]),(7,.cells 25 (Qqt a6)),(8,Qf),(9,.cells 26 [.fn 108 [(0,0),(8,0),(9,0)]])],[],12,50,[]⟩:St))) r).tk,((Sum.elim (fun (r0:Int×Int)=>(⟨[(7,.v (.one (Qqq false)))],[(0,.cells 153 [.yld 1]),(1,J6),(2,.obj (.deferred (some []))),(3,.cells 25 (Qqt a2)),(4,.cells 28 [Qqp r0.1]),(5,.cells 107 (Qqt a4)),(6,.cells 3 [Qqp r0.2]),(7,.cells 25 (Qqt a6)),(8,Qf),(9,.cells 26 [.fn 108 [(0,0),(8,0),(9,0)]])],[],12,50,[]⟩:St)) (fun (r1:Bool×Int)=>(⟨[(7,.v (.one (Qqq r1.1)))],[(0,.cells 153 [.yld 1]),(1,QJ),(2,.obj (.deferred (some []))),(3,.cells 25 (Qqt a2)),(4,.cells 28 [Qqp a3]),(5,.cells 107 (Qqt a4)),(6,.cells 3 [Qqp r1.2]),(7,.cells 25 (Qqt a6)),(8,Qf),(9,.cells 26 [.fn 108 [(0,0),(8,0),(9,0)]])],[],12,50,[]⟩:St))) r).nx⟩:=by
 unfold Gc at h0
 refine CallE.of_body r ((Sum.elim (fun (r0:Int×Int)=>(⟨[(7,.v (.one (Qqq false)))],[(0,.cells 153 [.yld 1]),(1,J6),(2,.obj (.deferred (some []))),(3,.cells 25 (Qqt a2)),(4,.cells 28 [Qqp r0.1]),(5,.cells 107 (Qqt a4)),(6,.cells 3 [Qqp r0.2]),(7,.cells 25 (Qqt a6)),(8,Qf),(9,.cells 26 [.fn 108 [(0,0),(8,0),(9,0)]])],[],12,50,[]⟩:St)) (fun (r1:Bool×Int)=>(⟨[(7,.v (.one (Qqq r1.1)))],[(0,.cells 153 [.yld 1]),(1,QJ),(2,.obj (.deferred (some []))),(3,.cells 25 (Qqt a2)),(4,.cells 28 [Qqp a3]),(5,.cells 107 (Qqt a4)),(6,.cells 3 [Qqp r1.2]),(7,.cells 25 (Qqt a6)),(8,Qf),(9,.cells 26 [.fn 108 [(0,0),(8,0),(9,0)]])],[],12,50,[]⟩:St)))) ((Sum.elim (fun (r0:Int×Int)=>((.ret [.one (Qqq false)]):EK)) (fun (r1:Bool×Int)=>((.ret [.one (Qqq r1.1)]):EK)))) rfl rfl en_108 (Qq9 rfl) (fun z_=>by cases z_ with
 | inl _=>exact rfl
 | inr _=>exact rfl) (fun z_=>by cases z_ with
 | inl _=>exact (Qpi (Jk rfl .nil))
 | inr _=>exact (Qpi (Jk rfl .nil))) (fun w0 M V0 Q hv0 hQ0=>?_)
 simp only [J5]
 refine Q4<|Q0<|Qk Z Z (Qq9 Z) (Y2 Z)<|Qq2 Z Z Z<|Q3<|Q5<|Q4<|Q4<|Q0<|Qq0 Z Z Z (Q6 ag_153 Z Z Z)<|Qq1 Z Z Z<|Qq0 Z Z Z (ZO (a0:Tm) Dx Z Z) ?_
 refine Qv h0 (fun y3 h1 h0=>?_)
 have ha4:ExecOK Tryz.prog (some 1) Zh ⟨[(5,.v (.one (.ptr 3 0))),(10,.v (.one (.ptr 4 0))),(11,.v (.one (.ptr 5 0))),(12,.v (.one (.ptr 6 0))),(26,.v (.one (.fn 106 [(7,0)]))),(27,.v (.one (Qqp a1))),(28,.v (.agg (Qqt a0)))],m108f3_h2 a2 a3 a4 a5 a6 a0,[],11,45,[]⟩ .normal ⟨[(10,.v (.one (.ptr 4 0))),(11,.v (.one (.ptr 5 0))),(12,.v (.one (.ptr 6 0))),(13,.v (.one (Qqp a1))),(14,.v (.one (.ptr 11 0)))],m108f3_h5 a2 a3 a4 a5 a6 a0,[],12,45,[]⟩:=by
  refine Q1v (fun w0 M V0 ro n Q hv1 hro1 hQn1=>?_)
  refine Q4<|Q0<|Qq2 Z Z Z<|Q3<|Q5<|Q0<|Qk Z Z (Qq9 Z) (QS Qng Z)<|QR Z Z (Zt (a0:Tm) Dx Z Z Z Z Z)<|Q3 ?_
  exact Qkp hQn1 (Qpx (Ca hv1 (Qq9 Z)) Z Z Z Z Z)
 have hb5:ExecOK Tryz.prog (some 1) Yv ⟨[(10,.v (.one (.ptr 4 0))),(11,.v (.one (.ptr 5 0))),(12,.v (.one (.ptr 6 0))),(13,.v (.one (Qqp a1))),(14,.v (.one (.ptr 11 0)))],WG a2 a3 a4 a5 a6 a0,[],12,45,[]⟩ ((Sum.elim (fun (_:Unit)=>(.normal:Exit)) (fun (_:Int)=>(.ret:Exit))) y3) ((Sum.elim (fun (y1:Unit)=>(⟨[],[(0,.cells 153 [.yld 1]),(1,Kw),(2,.obj (.deferred (some []))),(3,.cells 25 (Qqt a2)),(4,.cells 28 [Qqp a3]),(5,.cells 107 (Qqt a4)),(6,.cells 3 [Qqp (Qm (a5+1))]),(7,.cells 25 (Qqt a6)),(8,Qf),(9,.cells 26 [.fn 108 [(0,0),(8,0),(9,0)]]),(10,.cells 25 (Qqt a0))],[],12,45,[]⟩:St)) (fun (y2:Int)=>(⟨[],WE a2 y2 a4 a5 a6 a0,[],12,45,[]⟩:St))) y3):=by
  refine Q1v (fun w0 M V0 ro n Q hv1 hro1 hQn1=>?_)
  refine QH<|Q4<|Q4<|Q0<|Qq0 Z Z Z (ZO (a4:Scp) Qko Z Z)<|Qq0 Z Z Z (ZO (a0:Tm) Dx Z Z)<|Qq1 Z Z Z ?_
  refine Qv h1 (fun x6 hx6 h1=>?_)
  refine Qk Z Z (Qq9 Z) (Ya (m59_ok a4 a0 a1 x6 hx6) Z (.cons (.agg (.cons (.d _) (.cons (.d _) (.cons (.d _) (.cons (.d _) .nil))))) (.cons (.agg (.cons (.d _) (.cons (.d _) (.cons (.d _) (.cons (.d _) (.cons (.d _) .nil)))))) (.cons (.one (.d _)) .nil))))<|Qq2 Z Z Z<|Q3<|Q5<|Q4<|Q0<|Qq1 Z Z Z<|Qq0 Z Z Z (Qb Z Z Z)<|Q3<|Q5 ?_
  refine Qy (b:=(x6 != 0)) Z (fun c7=>?_) (fun c7=>?_)
  replace h1:=QF c7 h1
  refine Q4<|Q0<|Qq1 Z Z Z<|QR Z Z (Qi GU Z Z Z Z (Qq9 Z) Z)<|Q3<|Q5<|QU ?_
  have e:=Qpy h1;subst e
  exact Qkp (e:=.ret) (st':=⟨[],WE a2 x6 a4 a5 a6 a0,[],12,45,[]⟩) hQn1 (Qpx (Ca hv1 (Qq9 Z)) Z Z Z Z Z)
  replace h1:=QG c7 h1
  refine QY<|Q5<|Q0<|Qq0 Z Z Z (Q6 Y1 Z Z Z)<|Qq0 Z Z Z (Qb Z Z Z)<|QR Z Z (Qi Y1 Z Z Z Z (Qq9 Z) Z)<|Q3<|Ji ?_
  have e:=Qpy h1;subst e
  exact Qkp (e:=.normal) (st':=⟨[],[(0,.cells 153 [.yld 1]),(1,Kw),(2,.obj (.deferred (some []))),(3,.cells 25 (Qqt a2)),(4,.cells 28 [Qqp a3]),(5,.cells 107 (Qqt a4)),(6,.cells 3 [Qqp (Qm (a5+1))]),(7,.cells 25 (Qqt a6)),(8,Qf),(9,.cells 26 [.fn 108 [(0,0),(8,0),(9,0)]]),(10,.cells 25 (Qqt a0))],[],12,45,[]⟩) hQn1 (Qpx (Ca hv1 (Qq9 Z)) Z Z Z Z Z)
 refine Qnm (C:=fun q_=>ExecOK Tryz.prog (some 1) Yv ⟨[(10,.v (.one (.ptr 4 0))),(11,.v (.one (.ptr 5 0))),(12,.v (.one (.ptr 6 0))),(13,.v (.one (Qqp a1))),(14,.v (.one (.ptr 11 0)))],WG a2 a3 a4 a5 a6 a0,[],12,45,[]⟩ ((Sum.elim (fun (_:Unit)=>(.normal:Exit)) (fun (_:Int)=>(.ret:Exit))) q_) ((Sum.elim (fun (y1:Unit)=>(⟨[],[(0,.cells 153 [.yld 1]),(1,Kw),(2,.obj (.deferred (some []))),(3,.cells 25 (Qqt a2)),(4,.cells 28 [Qqp a3]),(5,.cells 107 (Qqt a4)),(6,.cells 3 [Qqp (Qm (a5+1))]),(7,.cells 25 (Qqt a6)),(8,Qf),(9,.cells 26 [.fn 108 [(0,0),(8,0),(9,0)]]),(10,.cells 25 (Qqt a0))],[],12,45,[]⟩:St)) (fun (y2:Int)=>(⟨[],WE a2 y2 a4 a5 a6 a0,[],12,45,[]⟩:St))) q_)) hb5 h0 (fun y1 hb5 h0=>?_) (fun y2 hb5 h0=>?_)
 replace hb5:ExecOK Tryz.prog (some 1) Yv ⟨[(10,.v (.one (.ptr 4 0))),(11,.v (.one (.ptr 5 0))),(12,.v (.one (.ptr 6 0))),(13,.v (.one (Qqp a1))),(14,.v (.one (.ptr 11 0)))],WG a2 a3 a4 a5 a6 a0,[],12,45,[]⟩ .normal ⟨[],[(0,.cells 153 [.yld 1]),(1,Kw),(2,.obj (.deferred (some []))),(3,.cells 25 (Qqt a2)),(4,.cells 28 [Qqp a3]),(5,.cells 107 (Qqt a4)),(6,.cells 3 [Qqp (Qm (a5+1))]),(7,.cells 25 (Qqt a6)),(8,Qf),(9,.cells 26 [.fn 108 [(0,0),(8,0),(9,0)]]),(10,.cells 25 (Qqt a0))],[],12,45,[]⟩:=hb5
 refine Qk Z Z (Qq9 Z) (Q54 (jump:=none) Z Z Z Z Z (Gk ha4 (fun E hv=>(Qpx (Ca hv (Qq9 Z)) Z Z Z Z Z))) Z (Gk hb5 (fun E hv=>(Qpx (Ca hv (Qq9 Z)) Z Z Z Z Z))) Z Z) ?_
 refine Qq0 Z Z Z (Gt Z)<|Q3<|Q5 ?_
 refine Qy Z (fun h=>nomatch h) (fun _=>?_)
 refine QY<|Q5<|Q4<|Q0<|Qq2 Z Z Z<|Q3<|Q5<|Q4<|Q4 ?_
 refine Jr (fun (v8:Bool)=>⟨[(1,.v (.one (Qqp a1))),(3,.v (.one (.ptr 8 0))),(4,.v (.one (.ptr 9 0))),(5,.v (.one (.ptr 10 0))),(8,.v (.one (Qqp (-1)))),(24,.v (.one (Qqq v8)))],[(0,.cells 153 [.yld 1]),(1,QJ),(2,.obj (.deferred (some []))),(3,.cells 25 (Qqt a2)),(4,.cells 28 [Qqp a3]),(5,.cells 107 (Qqt a4)),(6,.cells 3 [Qqp (Qm (a5+1))]),(7,.cells 25 (Qqt a6)),(8,Qf),(9,.cells 26 [.fn 108 [(0,0),(8,0),(9,0)]]),(10,.cells 25 (Qqt a0))],[],12,50,[]⟩) (fun (v8:Bool)=>(ZG v8 a0 a1 rc a2 a3 a4 a6 a5)=some r) ?_ ?_
 refine Qv h0 (fun w1_ h1 h0=>?_)
 refine Q0<|Qq0 Z Z Z (Q2 Xm Z)<|Qq0 Z Z Z (Q6 Y1 Z Z Z)<|Qq0 Z Z Z (Qb Z Z Z)<|Qq1 Z Z Z ?_
 refine J1 (d:=20) (c:=(decide (0≤a0.kind))) Z (fun c9=>?_) (fun c9=>?_)
 replace h1:=QF c9 h1
 refine Qq0 Z Z Z (Q2 Xm Z)<|Qq0 Z Z Z (Q6 Y1 Z Z Z)<|Qq0 Z Z Z (Qb Z Z Z)<|Qq0 Z Z Z (Qn Z Z)<|Q3 ?_
 have e:=Qpy h1;subst e
 exact Qj (decide (a0.kind < 13)) (Qpx (Ca hv0 (Qq9 Z)) Z Z Z Z Z) h0
 replace h1:=QG c9 h1
 refine Q8 Z Z<|Q8 Z Z<|Q8 Z Z<|Qq0 Z Z Z (Qz Z Z)<|Q3 ?_
 have e:=Qpy h1;subst e
 exact Qj false (Qpx (Ca hv0 (Qq9 Z)) Z Z Z Z Z) h0
 intro v8 h0
 unfold ZG at h0
 refine Q5 ?_
 refine Jr (fun (v10:Int)=>⟨[(1,.v (.one (Qqp a1))),(4,.v (.one (.ptr 9 0))),(5,.v (.one (.ptr 10 0))),(8,.v (.one (Qqp v10)))],[(0,.cells 153 [.yld 1]),(1,QJ),(2,.obj (.deferred (some []))),(3,.cells 25 (Qqt a2)),(4,.cells 28 [Qqp a3]),(5,.cells 107 (Qqt a4)),(6,.cells 3 [Qqp (Qm (a5+1))]),(7,.cells 25 (Qqt a6)),(8,Qf),(9,.cells 26 [.fn 108 [(0,0),(8,0),(9,0)]]),(10,.cells 25 (Qqt a0))],[],12,50,[]⟩) (fun (v10:Int)=>(Option.bind (Q9 (Yf a0 v10 a1 rc a2 a3 a4 a6) Qd (0,(Qm (a5+1)))) (Sum.elim (fun (o11:Int)=>some (.inr (true,o11))) (fun o=>some o)))=some r) ?_ ?_
 refine Qv h0 (fun w1_ h1 h0=>?_)
 refine Qy (b:=v8) Z (fun c11=>?_) (fun c11=>?_)
 replace h1:=QF c11 h1
 refine Q0<|Qq0 Z Z Z (Q2 Xm Z)<|Qq0 Z Z Z (Q6 Y1 Z Z Z) ?_
 refine UA h1 (fun g12 h1=>?_)
 refine Qq0 Z Z Z (RO.indexA arr_156 Z Z g12)<|Qq0 Z Z Z (Q2 fo_155_4 Z) ?_
 refine Qv h1 (fun x13 hx13 h1=>?_)
 refine Qq0 Z Z Z (RO.loadCol (m:=a0.kind) (sz:=5) (f:=4) (col:=([(-1),(-1),(-1),(-1),(-1),1,1,1,(-1),(-1),(-1),2,(-1)]:List Int)) Y1 Z Z Z hx13)<|Qq2 Z Z Z<|Q3 ?_
 have e:=Qpy h1;subst e
 exact Qj x13 (Qpx (Ca hv0 (Qq9 Z)) Z Z Z Z Z) h0
 replace h1:=QG c11 h1
 refine QY ?_
 have e:=Qpy h1;subst e
 exact Qj (-1) (Qpx (Ca hv0 (Qq9 Z)) Z Z Z Z Z) h0
 intro v10 h0
 refine Q5<|Q4<|Q4<|Q0<|Qq0 Z Z Z (Q2 Kl Z)<|Qq0 Z Z Z (Q6 Dy Z Z Z)<|Qq0 Z Z Z (JG (α:=Tm) WX Z (.d _))<|Qq1 Z Z Z<|Q3<|Q5<|QH ?_
 refine G0 0 (fun (o14:Int)=>⟨[],[(0,.cells 153 [.yld 1]),(1,QJ),(2,.obj (.deferred (some []))),(3,.cells 25 (Qqt a2)),(4,.cells 28 [Qqp a3]),(5,.cells 107 (Qqt a4)),(6,.cells 3 [Qqp o14]),(7,.cells 25 (Qqt a6)),(8,Qf),(9,.cells 26 [.fn 108 [(0,0),(8,0),(9,0)]]),(10,.cells 25 (Qqt a0))],[],12,50,[]⟩) (fun (o14:Int)=>(some (.inr (true,o14)))=some r) ?_ ?_
 refine Qv h0 (fun o15 hl1 h0=>?_)
 refine KZ (Yf a0 v10 a1 rc a2 a3 a4 a6) (fun s1=>⟨[(1,.v (.one (Qqp a1))),(4,.v (.one (.ptr 9 0))),(8,.v (.one (Qqp v10))),(31,.v (.one (Qqn a0.kids))),(32,.v (.one (Qqp (a0.kids.length:Int)))),(33,.v (.one (Qqp s1.1)))],[(0,.cells 153 [.yld 1]),(1,QJ),(2,.obj (.deferred (some []))),(3,.cells 25 (Qqt a2)),(4,.cells 28 [Qqp a3]),(5,.cells 107 (Qqt a4)),(6,.cells 3 [Qqp s1.2]),(7,.cells 25 (Qqt a6)),(8,Qf),(9,.cells 26 [.fn 108 [(0,0),(8,0),(9,0)]]),(10,.cells 25 (Qqt a0))],[],12,50,[]⟩) (0,(Qm (a5+1))) o15 (Qpx (Ca hv0 (Qq9 Z)) Z Z Z Z Z) hl1 (fun s1 n1 oo1 h1 ho1=>?_)
 unfold Yf at h1
 refine Q4<|Q0<|Qq0 Z Z Z (Qb Z Z Z)<|Q3<|Q5<|Q4 ?_
 refine Qy (b:=(decide (s1.1 < (a0.kids.length:Int)))) Z (fun c16=>?_) (fun c16=>?_)
 replace h1:=QF c16 h1
 refine QY<|Q5<|Q4<|QH<|Q4<|Q0<|Qq1 Z Z Z ?_
 refine Qv h1 (fun x17 hx17 h1=>?_)
 refine Qq0 Z Z Z (GZ (α:=Tm) WX Z (.d _) Z hx17)<|Qq0 Z Z Z (Kn (x17:Tm) Dx Z)<|Qk Z Z (Qq9 Z) (QS Qng Z)<|Qq2 Z Z Z<|QR Z Z (Zt (x17:Tm) Dx Z Z Z Z Z)<|Q3<|Q5<|Q4<|Q0<|Qq1 Z Z Z<|Qq2 Z Z Z<|Q3<|Q5<|Q4 ?_
 refine Q4<|Q0<|Qq1 Z Z Z<|Qq1 Z Z Z<|Qq0 Z Z Z (Qb Z Z Z)<|Q3<|Q5 ?_
 refine Jr (fun (v18:Int)=>⟨[(1,.v (.one (Qqp a1))),(4,.v (.one (.ptr 9 0))),(8,.v (.one (Qqp v10))),(10,.v (.one (.ptr 12 0))),(11,.v (.one (Qqp v18))),(31,.v (.one (Qqn a0.kids))),(32,.v (.one (Qqp (a0.kids.length:Int)))),(33,.v (.one (Qqp s1.1)))],m108f3_h7 a2 a3 a4 s1 a6 a0 x17,[],13,50,[]⟩) (fun (v18:Int)=>(GF rc x17 v18 a2 a3 a4 s1 a6)=some oo1) ?_ ?_
 refine Qv h1 (fun w2_ h2 h1=>?_)
 refine Qy (b:=(s1.1==v10)) Z (fun c19=>?_) (fun c19=>?_)
 replace h2:=QF c19 h2
 refine Q0<|Qq1 Z Z Z<|Qq0 Z Z Z (Qb Z Z Z)<|Qq2 Z Z Z<|Q3 ?_
 have e:=Qpy h2;subst e
 exact Qj (Qm (a1+1)) (Qpx (Ca hv0 (Qq9 Z)) Z Z Z Z Z) h1
 replace h2:=QG c19 h2
 refine QY ?_
 have e:=Qpy h2;subst e
 exact Qj a1 (Qpx (Ca hv0 (Qq9 Z)) Z Z Z Z Z) h1
 intro v18 h1
 unfold GF at h1
 refine Q5<|Q4<|Q0<|Qq0 Z Z Z (Q6 Qkm Z Z Z)<|Qq0 Z Z Z (ZO (x17:Tm) Dx Z Z)<|Qq1 Z Z Z ?_
 refine Qv h1 (fun x20 hx20 h1=>?_)
 refine Qnn id hx20 h1 (fun x21 hx21 h1=>?_) (fun x22 hx22 h1=>?_)
 refine Qk Z Z (Qq9 Z) (Qo (hp1':=[(0,.cells 153 [.yld 1]),(1,.loop .done (some .ret) [(5,.v (.one (.ptr 3 0))),(10,.v (.one (.ptr 4 0))),(11,.v (.one (.ptr 5 0))),(12,.v (.one (.ptr 6 0))),(26,.v (.one (.fn 106 [(7,0)])))] 45 #[27,28] Zh Yv 2),(2,.obj (.deferred (some []))),(3,.cells 25 (Qqt a2)),(4,.cells 28 [Qqp x21.1]),(5,.cells 107 (Qqt a4)),(6,.cells 3 [Qqp x21.2]),(7,.cells 25 (Qqt a6)),(8,.cells 156 [Qqq true,Qqq false,Qqp 0,Qqp 0,Qqp (-1),Qqq false,Qqq false,Qqp 0,Qqp 0,Qqp (-1),Qqq false,Qqq false,Qqp 1,Qqp 0,Qqp (-1),Qqq false,Qqq true,Qqp (-1),Qqp 0,Qqp (-1),Qqq false,Qqq false,Qqp 0,Qqp 2,Qqp (-1),Qqq false,Qqq false,Qqp 0,Qqp 2,Qqp 1,Qqq false,Qqq false,Qqp 0,Qqp 2,Qqp 1,Qqq false,Qqq false,Qqp 0,Qqp 2,Qqp 1,Qqq false,Qqq false,Qqp 0,Qqp 3,Qqp (-1),Qqq false,Qqq false,Qqp 0,Qqp 1,Qqp (-1),Qqq false,Qqq false,Qqp 0,Qqp 1,Qqp (-1),Qqq false,Qqq false,Qqp 0,Qqp 3,Qqp 2,Qqq true,Qqq false,Qqp 0,Qqp 0,Qqp (-1)]),(9,.cells 26 [.fn 108 [(0,0),(8,0),(9,0)]])]) (tk1':=[]) (hpF:=[(10,.cells 25 (Qqt a0)),(12,.cells 25 (Qqt x17))]) (tkF:=[]) (res2:=Qh [.one (Qqq false)]) (nx2:=15) [0,1,2,3,4,5,6,7,8,9] Z Z (CallE.m (H x17 v18 a2 a3 a4 s1.2 a6 (.inl x21) hx21)) Z Z (Qq5 Z Z (Qq5 Z Z (Qq5 Z Z (Qq5 Z Z (Qq5 Z Z (Qq5 Z Z (Qq5 Z Z (Qq5 Z Z (Qq5 Z Z (Qq5 Z Z Qq3)))))))))) Z Z (Qqk Z (Qqk Z (Qqk Z (Qqk Z (Qqk Z (Qqk Z (Qqk Z (Qqk Z (Qqk Z (Qqk Z Qqj)))))))))) Qqe (hA Z) Qqa Z Z Z Z Z (Qr0 Z) Z Z Z Z)<|Qq0 Z Z Z (Gt Z)<|Q3<|Q5 ?_
 refine Qy Z (fun _=>?_) (fun h=>nomatch h)
 refine Q4<|Q0<|Qq2 Z Z Z<|Q3<|Q5<|QU ?_
 have e:=Qpy h1;subst e
 have e_:_=_:=ho1
 subst e_
 try dsimp only [Sum.elim_inl,Sum.elim_inr] at h0
 have e:=Qpy h0;subst e
 exact hQ0 _ _ Qp3 Z (show StLe _ _ ⟨[(7,.v (.one (Qqq false)))],m108f3_h9 a2 x21 a4 a6,[],12,50,[]⟩ from (Qpx (Ca hv0 (Qq9 Z)) Z Z Z Z Z))
 refine Qk Z Z (Qq9 Z) (Qo (hp1':=[(0,.cells 153 [.yld 1]),(1,.loop .ready none [(5,.v (.one (.ptr 3 0))),(10,.v (.one (.ptr 4 0))),(11,.v (.one (.ptr 5 0))),(12,.v (.one (.ptr 6 0))),(26,.v (.one (.fn 106 [(7,0)])))] 45 #[27,28] Zh Yv 2),(2,.obj (.deferred (some []))),(3,.cells 25 (Qqt a2)),(4,.cells 28 [Qqp a3]),(5,.cells 107 (Qqt a4)),(6,.cells 3 [Qqp x22.2]),(7,.cells 25 (Qqt a6)),(8,.cells 156 [Qqq true,Qqq false,Qqp 0,Qqp 0,Qqp (-1),Qqq false,Qqq false,Qqp 0,Qqp 0,Qqp (-1),Qqq false,Qqq false,Qqp 1,Qqp 0,Qqp (-1),Qqq false,Qqq true,Qqp (-1),Qqp 0,Qqp (-1),Qqq false,Qqq false,Qqp 0,Qqp 2,Qqp (-1),Qqq false,Qqq false,Qqp 0,Qqp 2,Qqp 1,Qqq false,Qqq false,Qqp 0,Qqp 2,Qqp 1,Qqq false,Qqq false,Qqp 0,Qqp 2,Qqp 1,Qqq false,Qqq false,Qqp 0,Qqp 3,Qqp (-1),Qqq false,Qqq false,Qqp 0,Qqp 1,Qqp (-1),Qqq false,Qqq false,Qqp 0,Qqp 1,Qqp (-1),Qqq false,Qqq false,Qqp 0,Qqp 3,Qqp 2,Qqq true,Qqq false,Qqp 0,Qqp 0,Qqp (-1)]),(9,.cells 26 [.fn 108 [(0,0),(8,0),(9,0)]])]) (tk1':=[]) (hpF:=[(10,.cells 25 (Qqt a0)),(12,.cells 25 (Qqt x17))]) (tkF:=[]) (res2:=Qh [.one (Qqq x22.1)]) (nx2:=15) [0,1,2,3,4,5,6,7,8,9] Z Z (CallE.m (H x17 v18 a2 a3 a4 s1.2 a6 (.inr x22) hx22)) Z Z (Qq5 Z Z (Qq5 Z Z (Qq5 Z Z (Qq5 Z Z (Qq5 Z Z (Qq5 Z Z (Qq5 Z Z (Qq5 Z Z (Qq5 Z Z (Qq5 Z Z Qq3)))))))))) Z Z (Qqk Z (Qqk Z (Qqk Z (Qqk Z (Qqk Z (Qqk Z (Qqk Z (Qqk Z (Qqk Z (Qqk Z Qqj)))))))))) Qqe (hA Z) Qqa Z Z Z Z Z (Qr0 Z) Z Z Z Z)<|Qq0 Z Z Z (Gt Z)<|Q3<|Q5 ?_
 refine Qy (b:=(!x22.1)) Z (fun c23=>?_) (fun c23=>?_)
 replace h1:=QF c23 h1
 refine Q4<|Q0<|Qq2 Z Z Z<|Q3<|Q5<|QU ?_
 have e:=Qpy h1;subst e
 have e_:_=_:=ho1
 subst e_
 try dsimp only [Sum.elim_inl,Sum.elim_inr] at h0
 have e:=Qpy h0;subst e
 exact hQ0 _ _ Qp3 Z (show StLe _ _ ⟨[(7,.v (.one (Qqq false)))],m108f3_h10 a2 a3 a4 x22 a6,[],12,50,[]⟩ from (Qpx (Ca hv0 (Qq9 Z)) Z Z Z Z Z))
 replace h1:=QG c23 h1
 refine QY<|Ji<|Q5<|Q0<|Qq0 Z Z Z (Qb Z Z Z)<|Qq1 Z Z Z<|Q3 ?_
 have e:=Qpy h1;subst e
 refine KX ((Qm (s1.1+1)),x22.2) (Qpx (Ca hv0 (Qq9 Z)) Z Z Z Z Z) ho1
 replace h1:=QG c16 h1
 refine Gj<|JP<|JP ?_
 have e:=Qpy h1;subst e
 have e_:_=_:=ho1
 subst e_
 exact KY s1.2 (Qpx (Ca hv0 (Qq9 Z)) Z Z Z Z Z) h0
 intro o14 h0
 refine Z6<|Q5<|Q4<|Q0<|Qq2 Z Z Z<|Q3<|Q5<|QU ?_
 have e:=Qpy h0;subst e
 exact hQ0 _ _ Qp3 Z (show StLe _ _ ⟨[(7,.v (.one (Qqq true)))],ZH a2 a3 a4 o14 a6,[],12,50,[]⟩ from (Qpx (Ca hv0 (Qq9 Z)) Z Z Z Z Z))
 replace hb5:ExecOK Tryz.prog (some 1) Yv ⟨[(10,.v (.one (.ptr 4 0))),(11,.v (.one (.ptr 5 0))),(12,.v (.one (.ptr 6 0))),(13,.v (.one (Qqp a1))),(14,.v (.one (.ptr 11 0)))],WG a2 a3 a4 a5 a6 a0,[],12,45,[]⟩ .ret ⟨[],WE a2 y2 a4 a5 a6 a0,[],12,45,[]⟩:=hb5
 refine Qk Z Z (Qq9 Z) (Q54 (jump:=(some .ret)) Z Z Z Z Z (Gk ha4 (fun E hv=>(Qpx (Ca hv (Qq9 Z)) Z Z Z Z Z))) Z (Gk hb5 (fun E hv=>(Qpx (Ca hv (Qq9 Z)) Z Z Z Z Z))) Z Z) ?_
 refine Qq0 Z Z Z (Gt Z)<|Q3<|Q5 ?_
 refine Qy Z (fun _=>?_) (fun h=>nomatch h)
 refine Q4<|Q0<|Qq2 Z Z Z<|Q3<|Q5<|QU ?_
 have e:=Qpy h0;subst e
 exact hQ0 _ _ Qp3 Z (show StLe _ _ ⟨[(7,.v (.one (Qqq false)))],m108f3_h12 a2 y2 a4 a5 a6,[],12,50,[]⟩ from (Qpx (Ca hv0 (Qq9 Z)) Z Z Z Z Z))
theorem m108f3_all (n:Nat) (u:Tm×Int×Tm×Int×Scp×Int×Tm) (r:(Int×Int)⊕(Bool×Int)) (h0:Jv Yp n u=some r):CallE Tryz.prog 108 [.agg (Qqt u.1),.one (Qqp u.2.1),.one (.ptr 0 0),.one (.ptr 8 0),.one (.ptr 9 0)] ⟨ZH u.2.2.1 u.2.2.2.1 u.2.2.2.2.1 u.2.2.2.2.2.1 u.2.2.2.2.2.2,[],10⟩ ((Sum.elim (fun (r0:Int×Int)=>((.ret [.one (Qqq false)]):EK)) (fun (r1:Bool×Int)=>((.ret [.one (Qqq r1.1)]):EK))) r) ⟨((Sum.elim (fun (r0:Int×Int)=>(⟨[(7,.v (.one (Qqq false)))],[(0,.cells 153 [.yld 1]),(1,J6),(2,.obj (.deferred (some []))),(3,.cells 25 (Qqt u.2.2.1)),(4,.cells 28 [Qqp r0.1]),(5,.cells 107 (Qqt u.2.2.2.2.1)),(6,.cells 3 [Qqp r0.2]),(7,.cells 25 (Qqt u.2.2.2.2.2.2)),(8,Qf),(9,.cells 26 [.fn 108 [(0,0),(8,0),(9,0)]])],[],12,50,[]⟩:St)) (fun (r1:Bool×Int)=>(⟨[(7,.v (.one (Qqq r1.1)))],[(0,.cells 153 [.yld 1]),(1,QJ),(2,.obj (.deferred (some []))),(3,.cells 25 (Qqt u.2.2.1)),(4,.cells 28 [Qqp u.2.2.2.1]),(5,.cells 107 (Qqt u.2.2.2.2.1)),(6,.cells 3 [Qqp r1.2]),(7,.cells 25 (Qqt u.2.2.2.2.2.2)),(8,Qf),(9,.cells 26 [.fn 108 [(0,0),(8,0),(9,0)]])],[],12,50,[]⟩:St))) r).hp,((Sum.elim (fun (r0:Int×Int)=>(⟨[(7,.v (.one (Qqq false)))],[(0,.cells 153 [.yld 1]),(1,J6),(2,.obj (.deferred (some []))),(3,.cells 25 (Qqt u.2.2.1)),(4,.cells 28 [Qqp r0.1]),(5,.cells 107 (Qqt u.2.2.2.2.1)),(6,.cells 3 [Qqp r0.2]),(7,.cells 25 (Qqt u.2.2.2.2.2.2)),(8,Qf),(9,.cells 26 [.fn 108 [(0,0),(8,0),(9,0)]])],[],12,50,[]⟩:St)) (fun (r1:Bool×Int)=>(⟨[(7,.v (.one (Qqq r1.1)))],[(0,.cells 153 [.yld 1]),(1,QJ),(2,.obj (.deferred (some []))),(3,.cells 25 (Qqt u.2.2.1)),(4,.cells 28 [Qqp u.2.2.2.1]),(5,.cells 107 (Qqt u.2.2.2.2.1)),(6,.cells 3 [Qqp r1.2]),(7,.cells 25 (Qqt u.2.2.2.2.2.2)),(8,Qf),(9,.cells 26 [.fn 108 [(0,0),(8,0),(9,0)]])],[],12,50,[]⟩:St))) r).tk,((Sum.elim (fun (r0:Int×Int)=>(⟨[(7,.v (.one (Qqq false)))],[(0,.cells 153 [.yld 1]),(1,J6),(2,.obj (.deferred (some []))),(3,.cells 25 (Qqt u.2.2.1)),(4,.cells 28 [Qqp r0.1]),(5,.cells 107 (Qqt u.2.2.2.2.1)),(6,.cells 3 [Qqp r0.2]),(7,.cells 25 (Qqt u.2.2.2.2.2.2)),(8,Qf),(9,.cells 26 [.fn 108 [(0,0),(8,0),(9,0)]])],[],12,50,[]⟩:St)) (fun (r1:Bool×Int)=>(⟨[(7,.v (.one (Qqq r1.1)))],[(0,.cells 153 [.yld 1]),(1,QJ),(2,.obj (.deferred (some []))),(3,.cells 25 (Qqt u.2.2.1)),(4,.cells 28 [Qqp u.2.2.2.1]),(5,.cells 107 (Qqt u.2.2.2.2.1)),(6,.cells 3 [Qqp r1.2]),(7,.cells 25 (Qqt u.2.2.2.2.2.2)),(8,Qf),(9,.cells 26 [.fn 108 [(0,0),(8,0),(9,0)]])],[],12,50,[]⟩:St))) r).nx⟩ :=
 GB (C:=fun u r=>CallE Tryz.prog 108 [.agg (Qqt u.1),.one (Qqp u.2.1),.one (.ptr 0 0),.one (.ptr 8 0),.one (.ptr 9 0)] ⟨ZH u.2.2.1 u.2.2.2.1 u.2.2.2.2.1 u.2.2.2.2.2.1 u.2.2.2.2.2.2,[],10⟩ ((Sum.elim (fun (r0:Int×Int)=>((.ret [.one (Qqq false)]):EK)) (fun (r1:Bool×Int)=>((.ret [.one (Qqq r1.1)]):EK))) r) ⟨((Sum.elim (fun (r0:Int×Int)=>(⟨[(7,.v (.one (Qqq false)))],[(0,.cells 153 [.yld 1]),(1,J6),(2,.obj (.deferred (some []))),(3,.cells 25 (Qqt u.2.2.1)),(4,.cells 28 [Qqp r0.1]),(5,.cells 107 (Qqt u.2.2.2.2.1)),(6,.cells 3 [Qqp r0.2]),(7,.cells 25 (Qqt u.2.2.2.2.2.2)),(8,Qf),(9,.cells 26 [.fn 108 [(0,0),(8,0),(9,0)]])],[],12,50,[]⟩:St)) (fun (r1:Bool×Int)=>(⟨[(7,.v (.one (Qqq r1.1)))],[(0,.cells 153 [.yld 1]),(1,QJ),(2,.obj (.deferred (some []))),(3,.cells 25 (Qqt u.2.2.1)),(4,.cells 28 [Qqp u.2.2.2.1]),(5,.cells 107 (Qqt u.2.2.2.2.1)),(6,.cells 3 [Qqp r1.2]),(7,.cells 25 (Qqt u.2.2.2.2.2.2)),(8,Qf),(9,.cells 26 [.fn 108 [(0,0),(8,0),(9,0)]])],[],12,50,[]⟩:St))) r).hp,((Sum.elim (fun (r0:Int×Int)=>(⟨[(7,.v (.one (Qqq false)))],[(0,.cells 153 [.yld 1]),(1,J6),(2,.obj (.deferred (some []))),(3,.cells 25 (Qqt u.2.2.1)),(4,.cells 28 [Qqp r0.1]),(5,.cells 107 (Qqt u.2.2.2.2.1)),(6,.cells 3 [Qqp r0.2]),(7,.cells 25 (Qqt u.2.2.2.2.2.2)),(8,Qf),(9,.cells 26 [.fn 108 [(0,0),(8,0),(9,0)]])],[],12,50,[]⟩:St)) (fun (r1:Bool×Int)=>(⟨[(7,.v (.one (Qqq r1.1)))],[(0,.cells 153 [.yld 1]),(1,QJ),(2,.obj (.deferred (some []))),(3,.cells 25 (Qqt u.2.2.1)),(4,.cells 28 [Qqp u.2.2.2.1]),(5,.cells 107 (Qqt u.2.2.2.2.1)),(6,.cells 3 [Qqp r1.2]),(7,.cells 25 (Qqt u.2.2.2.2.2.2)),(8,Qf),(9,.cells 26 [.fn 108 [(0,0),(8,0),(9,0)]])],[],12,50,[]⟩:St))) r).tk,((Sum.elim (fun (r0:Int×Int)=>(⟨[(7,.v (.one (Qqq false)))],[(0,.cells 153 [.yld 1]),(1,J6),(2,.obj (.deferred (some []))),(3,.cells 25 (Qqt u.2.2.1)),(4,.cells 28 [Qqp r0.1]),(5,.cells 107 (Qqt u.2.2.2.2.1)),(6,.cells 3 [Qqp r0.2]),(7,.cells 25 (Qqt u.2.2.2.2.2.2)),(8,Qf),(9,.cells 26 [.fn 108 [(0,0),(8,0),(9,0)]])],[],12,50,[]⟩:St)) (fun (r1:Bool×Int)=>(⟨[(7,.v (.one (Qqq r1.1)))],[(0,.cells 153 [.yld 1]),(1,QJ),(2,.obj (.deferred (some []))),(3,.cells 25 (Qqt u.2.2.1)),(4,.cells 28 [Qqp u.2.2.2.1]),(5,.cells 107 (Qqt u.2.2.2.2.1)),(6,.cells 3 [Qqp r1.2]),(7,.cells 25 (Qqt u.2.2.2.2.2.2)),(8,Qf),(9,.cells 26 [.fn 108 [(0,0),(8,0),(9,0)]])],[],12,50,[]⟩:St))) r).nx⟩) (fun rc H u r h=>m108f3s_ok rc (fun a0 a1 a2 a3 a4 a5 a6 r h=>H (a0,a1,a2,a3,a4,a5,a6) r h) u.1 u.2.1 u.2.2.1 u.2.2.2.1 u.2.2.2.2.1 u.2.2.2.2.2.1 u.2.2.2.2.2.2 r h) n u r h0
theorem Q6n (a0:Tm) (a1:Int) (a2:Tm) (a3:Int) (a4:Scp) (a5:Int) (a6:Tm) (r:(Int×Int)⊕(Bool×Int)) (h0:Q8x a0 a1 a2 a3 a4 a5 a6=some r):CallE Tryz.prog 108 [.agg (Qqt a0),.one (Qqp a1),.one (.ptr 0 0),.one (.ptr 8 0),.one (.ptr 9 0)] ⟨ZH a2 a3 a4 a5 a6,[],10⟩ ((Sum.elim (fun (r0:Int×Int)=>((.ret [.one (Qqq false)]):EK)) (fun (r1:Bool×Int)=>((.ret [.one (Qqq r1.1)]):EK))) r) ⟨((Sum.elim (fun (r0:Int×Int)=>(⟨[(7,.v (.one (Qqq false)))],[(0,.cells 153 [.yld 1]),(1,J6),(2,.obj (.deferred (some []))),(3,.cells 25 (Qqt a2)),(4,.cells 28 [Qqp r0.1]),(5,.cells 107 (Qqt a4)),(6,.cells 3 [Qqp r0.2]),(7,.cells 25 (Qqt a6)),(8,Qf),(9,.cells 26 [.fn 108 [(0,0),(8,0),(9,0)]])],[],12,50,[]⟩:St)) (fun (r1:Bool×Int)=>(⟨[(7,.v (.one (Qqq r1.1)))],[(0,.cells 153 [.yld 1]),(1,QJ),(2,.obj (.deferred (some []))),(3,.cells 25 (Qqt a2)),(4,.cells 28 [Qqp a3]),(5,.cells 107 (Qqt a4)),(6,.cells 3 [Qqp r1.2]),(7,.cells 25 (Qqt a6)),(8,Qf),(9,.cells 26 [.fn 108 [(0,0),(8,0),(9,0)]])],[],12,50,[]⟩:St))) r).hp,((Sum.elim (fun (r0:Int×Int)=>(⟨[(7,.v (.one (Qqq false)))],[(0,.cells 153 [.yld 1]),(1,J6),(2,.obj (.deferred (some []))),(3,.cells 25 (Qqt a2)),(4,.cells 28 [Qqp r0.1]),(5,.cells 107 (Qqt a4)),(6,.cells 3 [Qqp r0.2]),(7,.cells 25 (Qqt a6)),(8,Qf),(9,.cells 26 [.fn 108 [(0,0),(8,0),(9,0)]])],[],12,50,[]⟩:St)) (fun (r1:Bool×Int)=>(⟨[(7,.v (.one (Qqq r1.1)))],[(0,.cells 153 [.yld 1]),(1,QJ),(2,.obj (.deferred (some []))),(3,.cells 25 (Qqt a2)),(4,.cells 28 [Qqp a3]),(5,.cells 107 (Qqt a4)),(6,.cells 3 [Qqp r1.2]),(7,.cells 25 (Qqt a6)),(8,Qf),(9,.cells 26 [.fn 108 [(0,0),(8,0),(9,0)]])],[],12,50,[]⟩:St))) r).tk,((Sum.elim (fun (r0:Int×Int)=>(⟨[(7,.v (.one (Qqq false)))],[(0,.cells 153 [.yld 1]),(1,J6),(2,.obj (.deferred (some []))),(3,.cells 25 (Qqt a2)),(4,.cells 28 [Qqp r0.1]),(5,.cells 107 (Qqt a4)),(6,.cells 3 [Qqp r0.2]),(7,.cells 25 (Qqt a6)),(8,Qf),(9,.cells 26 [.fn 108 [(0,0),(8,0),(9,0)]])],[],12,50,[]⟩:St)) (fun (r1:Bool×Int)=>(⟨[(7,.v (.one (Qqq r1.1)))],[(0,.cells 153 [.yld 1]),(1,QJ),(2,.obj (.deferred (some []))),(3,.cells 25 (Qqt a2)),(4,.cells 28 [Qqp a3]),(5,.cells 107 (Qqt a4)),(6,.cells 3 [Qqp r1.2]),(7,.cells 25 (Qqt a6)),(8,Qf),(9,.cells 26 [.fn 108 [(0,0),(8,0),(9,0)]])],[],12,50,[]⟩:St))) r).nx⟩:=m108f3_all Qd (a0,a1,a2,a3,a4,a5,a6) r h0
abbrev Q8p (p0_:Int) (p1_:Int) (p2_:Int) (p3_:Int):HB :=
 .cells 107 [Qqp (max p0_ 0),Qqp (max p1_ 0),Qqp (max p2_ 0),Qqp (max p3_ 0)]
abbrev m27_h1 (p0_:Tm) (p1_:Int) (p2_:Int) (p3_:Int) (p4_:Int):List (Nat×HB) :=
 [(0,.cells 25 (Qqt p0_)),(1,.cells 28 [Qqp 0]),(2,Q8p p1_ p2_ p3_ p4_),(3,.cells 3 [Qqp 0])]
abbrev Qdg (p0_:Tm) (p1_:Int) (p2_:Int) (p3_:Int) (p4_:Int):List (Nat×HB) :=
 [(0,.cells 25 (Qqt p0_)),(1,.cells 28 [Qqp 0]),(2,Q8p p1_ p2_ p3_ p4_),(3,.cells 3 [Qqp 0]),(4,.cells 25 (Qqt p0_))]
abbrev Qdf (p0_:Int) (p1_:Int) (p2_:Int) (p3_:Int):HB :=
 .cells 107 [Qqp ((⟨(max p0_ 0),(max p1_ 0),(max p2_ 0),(max p3_ 0)⟩:Scp).vars),Qqp ((⟨(max p0_ 0),(max p1_ 0),(max p2_ 0),(max p3_ 0)⟩:Scp).params),Qqp ((⟨(max p0_ 0),(max p1_ 0),(max p2_ 0),(max p3_ 0)⟩:Scp).metas),Qqp ((⟨(max p0_ 0),(max p1_ 0),(max p2_ 0),(max p3_ 0)⟩:Scp).levels)]
abbrev Q8o :HB :=
 .loop .ready none [(5,.v (.one (.ptr 0 0))),(10,.v (.one (.ptr 1 0))),(11,.v (.one (.ptr 2 0))),(12,.v (.one (.ptr 3 0))),(26,.v (.one (.fn 106 [(4,0)])))] 45 #[27,28] Zh Yv 5
abbrev W1 (p0_:Tm) (p1_:Int) (p2_:Int) (p3_:Int) (p4_:Int) (p5_:Int):List (Nat×HB) :=
 [(0,.cells 25 (Qqt p0_)),(1,.cells 28 [Qqp 0]),(2,Qdf p1_ p2_ p3_ p4_),(3,.cells 3 [Qqp p5_]),(4,.cells 25 (Qqt p0_)),(5,.obj (.deferred (some []))),(6,Q8o)]
abbrev m27_h6 :HB :=
 .loop .done (some .ret) [(5,.v (.one (.ptr 0 0))),(10,.v (.one (.ptr 1 0))),(11,.v (.one (.ptr 2 0))),(12,.v (.one (.ptr 3 0))),(26,.v (.one (.fn 106 [(4,0)])))] 45 #[27,28] Zh Yv 5
abbrev Xc (p0_:Tm) (p1_:Int×Int) (p2_:Int) (p3_:Int) (p4_:Int) (p5_:Int):List (Nat×HB) :=
 [(0,.cells 25 (Qqt p0_)),(1,.cells 28 [Qqp p1_.1]),(2,Qdf p2_ p3_ p4_ p5_),(3,.cells 3 [Qqp p1_.2]),(4,.cells 25 (Qqt p0_)),(5,.obj (.deferred (some []))),(6,m27_h6)]
abbrev m27_h8 (p0_:Tm) (p1_:Int) (p2_:Int) (p3_:Int) (p4_:Int):List (Nat×HB) :=
 [(0,.cells 25 (Qqt p0_)),(1,.cells 28 [Qqp 0]),(2,Q8p p1_ p2_ p3_ p4_),(3,.cells 3 [Qqp 0]),(4,.cells 25 (Qqt p0_)),(5,.obj (.deferred (some []))),(6,Q8o),(7,.cells 153 [.yld 6])]
abbrev Qde :HB :=
 .cells 156 [Qqq true,Qqq false,Qqp 0,Qqp 0,Qqp (-1),Qqq false,Qqq false,Qqp 0,Qqp 0,Qqp (-1),Qqq false,Qqq false,Qqp 1,Qqp 0,Qqp (-1),Qqq false,Qqq true,Qqp (-1),Qqp 0,Qqp (-1),Qqq false,Qqq false,Qqp 0,Qqp 2,Qqp (-1),Qqq false,Qqq false,Qqp 0,Qqp 2,Qqp 1,Qqq false,Qqq false,Qqp 0,Qqp 2,Qqp 1,Qqq false,Qqq false,Qqp 0,Qqp 2,Qqp 1,Qqq false,Qqq false,Qqp 0,Qqp 3,Qqp (-1),Qqq false,Qqq false,Qqp 0,Qqp 1,Qqp (-1),Qqq false,Qqq false,Qqp 0,Qqp 1,Qqp (-1),Qqq false,Qqq false,Qqp 0,Qqp 3,Qqp 2,Qqq true,Qqq false,Qqp 0,Qqp 0,Qqp (-1)]
abbrev Qfj (p0_:Tm) (p1_:Int) (p2_:Int) (p3_:Int) (p4_:Int):List (Nat×HB) :=
 [(0,.cells 25 (Qqt p0_)),(1,.cells 28 [Qqp 0]),(2,Q8p p1_ p2_ p3_ p4_),(3,.cells 3 [Qqp 0]),(4,.cells 25 (Qqt p0_)),(5,.obj (.deferred (some []))),(6,Q8o),(7,.cells 153 [.yld 6]),(8,Qde)]
abbrev m27_h11 (p0_:Tm) (p1_:Int) (p2_:Int) (p3_:Int) (p4_:Int) (p5_:Bool×Int):List (Nat×HB) :=
 [(0,.cells 25 (Qqt p0_)),(1,.cells 28 [Qqp 0]),(2,Qdf p1_ p2_ p3_ p4_),(3,.cells 3 [Qqp p5_.2]),(4,.cells 25 (Qqt p0_)),(5,.obj (.deferred (some []))),(6,Q8o)]
def Qlb (a0:Tm) (a1:Int) (a2:Int) (a3:Int) (a4:Int):Option Int :=
 Option.bind (some ()) (fun (y1:Unit)=>Option.bind (Option.bind (some ()) (fun (y7:Unit)=>Option.bind (Q8x a0 0 a0 0 (⟨(max a1 0),(max a2 0),(max a3 0),(max a4 0)⟩:Scp) 0 a0) (Sum.elim (fun (x10:Int×Int)=>some (.inr (x10.1,x10.2))) (fun (x11:Bool×Int)=>some (.inl x11.2))))) (Sum.elim (fun (y3:Int)=>cond (decide (4096 < y3))
   (some 5)
   (Option.bind (Qp1 a0) fun (x13:Int) =>
 cond (decide (200 < x13))
   (some 7)
   (some 0))) (fun (y4:Int×Int)=>some y4.1)))
theorem m27_ok (a0:Tm) (a1:Int) (a2:Int) (a3:Int) (a4:Int) (r:Int) (h0:Qlb a0 a1 a2 a3 a4=some r):Fun Tryz.prog 27 [.agg (Qqt a0),.one (Qqp a1),.one (Qqp a2),.one (Qqp a3),.one (Qqp a4)] (Qh [.one (Qqp r)]):=by
 unfold Qlb at h0
 refine Ko 9 45 Tryz.func27 Z en_27 Z (Qq9 Z) (fun S w=>?_)
 simp only [J5]
 refine Q4<|Q0<|Qk Z Z (Qq9 Z) (Y2 Z)<|Qk Z Z (Qq9 Z) (QS z_28 Z)<|Q3<|Q5<|Q4<|Q0<|Qq1 Z Z Z<|Qq0 Z Z Z (WP Z Z)<|Qq1 Z Z Z<|Qq0 Z Z Z (WP Z Z)<|Qq1 Z Z Z<|Qq0 Z Z Z (WP Z Z) ?_
 refine Qq1 Z Z Z<|Qq0 Z Z Z (WP Z Z)<|Qq0 Z Z Z (Q0r bd_107 Z (.cons Z (.cons Z (.cons Z (.cons Z .nil)))) Z)<|Qk Z Z (Qq9 Z) (QS z_107 Z)<|QR Z Z (Qi Qko Z Z Z Z (Qq9 Z) Z)<|Q3<|Q5<|Q4<|Q0<|Qk Z Z (Qq9 Z) (QS z_3 Z)<|QR Z Z (Qi Y1 Z Z Z Z (Qq9 Z) Z)<|Q3<|Q5<|Q4 ?_
 refine Q4<|Q0<|Qq0 Z Z Z (ZO (a0:Tm) Dx Z Z) ?_
 refine Qv h0 (fun y1 h1 h0=>?_)
 have hc2:CallM Tryz.prog 58 [.agg (Qqt a0)] ⟨m27_h1 a0 a1 a2 a3 a4,[],4⟩ (Qh [.one (.fn 106 [(4,0)])]) ⟨Qdg a0 a1 a2 a3 a4,[],5⟩:=by
  refine Qp ⟨[(2,.v (.one (.fn 106 [(4,0)])))],Qdg a0 a1 a2 a3 a4,[],5,4,[]⟩ Z Z en_58 (Qq9 Z) Z (Jk Z .nil) (fun w0 M V0 Q hv1 hQ1=>?_)
  simp only [J5]
  refine Q4<|Q0<|Qk Z Z (Qq9 Z) (Y2 Z)<|Qq2 Z Z Z<|Q3<|Q5<|Q4<|Q0<|Qq0 Z Z Z (Xv Z)<|Qq2 Z Z Z<|Q3<|Q5<|QU ?_
  have e:=Qpy h1;subst e
  exact hQ1 _ _ _ (.inr Z) Z (Qpx (Ca hv1 (Qq9 Z)) Z Z Z Z Z)
 refine Qk Z Z (Qq9 Z) (G2 Z Z Z hc2 Z (hA Z) Qqa)<|Q3<|Q5<|QH<|Qh9 (st':=⟨[(5,.v (.one (.ptr 0 0))),(10,.v (.one (.ptr 1 0))),(11,.v (.one (.ptr 2 0))),(12,.v (.one (.ptr 3 0))),(26,.v (.one (.fn 106 [(4,0)])))],Qdg a0 a1 a2 a3 a4,[],5,45,[]⟩) (Qpx (Co _) Z Z Z Z Z) ?_
 refine Qv h0 (fun y6 h1 h0=>?_)
 have hc5:CallM Tryz.prog 106 [.one (.yld 6),.one (.ptr 4 0)] ⟨[(6,.loop .ready none [(5,.v (.one (.ptr 0 0))),(10,.v (.one (.ptr 1 0))),(11,.v (.one (.ptr 2 0))),(12,.v (.one (.ptr 3 0))),(26,.v (.one (.fn 106 [(4,0)])))] 45 #[27,28] Zh Yv 5),(5,.obj (.deferred (some []))),(0,.cells 25 (Qqt a0)),(1,.cells 28 [Qqp 0]),(2,.cells 107 [Qqp (max a1 0),Qqp (max a2 0),Qqp (max a3 0),Qqp (max a4 0)]),(3,.cells 3 [Qqp 0]),(4,.cells 25 (Qqt a0))],[],7⟩ (Qh []) ⟨(((Sum.elim (fun (y3:Int)=>(⟨[],W1 a0 a1 a2 a3 a4 y3,[],13,10,[]⟩:St)) (fun (y4:Int×Int)=>(⟨[],Xc a0 y4 a1 a2 a3 a4,[],13,10,[]⟩:St)))) y6).hp,(((Sum.elim (fun (y3:Int)=>(⟨[],W1 a0 a1 a2 a3 a4 y3,[],13,10,[]⟩:St)) (fun (y4:Int×Int)=>(⟨[],Xc a0 y4 a1 a2 a3 a4,[],13,10,[]⟩:St)))) y6).tk,(((Sum.elim (fun (y3:Int)=>(⟨[],W1 a0 a1 a2 a3 a4 y3,[],13,10,[]⟩:St)) (fun (y4:Int×Int)=>(⟨[],Xc a0 y4 a1 a2 a3 a4,[],13,10,[]⟩:St)))) y6).nx⟩:=by
  refine CallM.of_bodyS y6 ((Sum.elim (fun (y3:Int)=>(⟨[],W1 a0 a1 a2 a3 a4 y3,[],13,10,[]⟩:St)) (fun (y4:Int×Int)=>(⟨[],Xc a0 y4 a1 a2 a3 a4,[],13,10,[]⟩:St)))) rfl rfl en_106 (Qq9 rfl) (fun z_=>by cases z_ <;> rfl) (fun z_=>.nil) (fun w0 M V0 Q hv1 hQ1=>?_)
  simp only [J5]
  refine Q4<|Q0<|Qk Z Z (Qq9 Z) (Y2 Z)<|Q3<|Q5<|Q4<|Q0 ?_
  refine Qv h1 (fun y7 h2 h1=>?_)
  have hc8:CallM Tryz.prog 107 [] ⟨m27_h8 a0 a1 a2 a3 a4,[],8⟩ (Qh [.agg [Qqq true,Qqq false,Qqp 0,Qqp 0,Qqp (-1),Qqq false,Qqq false,Qqp 0,Qqp 0,Qqp (-1),Qqq false,Qqq false,Qqp 1,Qqp 0,Qqp (-1),Qqq false,Qqq true,Qqp (-1),Qqp 0,Qqp (-1),Qqq false,Qqq false,Qqp 0,Qqp 2,Qqp (-1),Qqq false,Qqq false,Qqp 0,Qqp 2,Qqp 1,Qqq false,Qqq false,Qqp 0,Qqp 2,Qqp 1,Qqq false,Qqq false,Qqp 0,Qqp 2,Qqp 1,Qqq false,Qqq false,Qqp 0,Qqp 3,Qqp (-1),Qqq false,Qqq false,Qqp 0,Qqp 1,Qqp (-1),Qqq false,Qqq false,Qqp 0,Qqp 1,Qqp (-1),Qqq false,Qqq false,Qqp 0,Qqp 3,Qqp 2,Qqq true,Qqq false,Qqp 0,Qqp 0,Qqp (-1)]]) ⟨Qfj a0 a1 a2 a3 a4,[],9⟩:=by
   refine Qp ⟨[(0,.v (.one (.ptr 8 0)))],Qfj a0 a1 a2 a3 a4,[],9,15,[]⟩ Z Z Qk5 (Qq9 Z) Z (Zs Q4z Z Z Z Z .nil) (fun w0 M V0 Q hv2 hQ2=>?_)
   simp only [J5]
   refine Q4<|Q0<|Qk Z Z (Qq9 Z) (QS Qhu Z)<|Q3<|Q5<|Q4<|Q0<|Qq0 Z Z Z (QK Jq Z Z Z Z)<|Qq0 Z Z Z (KC Jq Z Z Z)<|Qq0 Z Z Z (QK Jq Z Z Z Z)<|Qq0 Z Z Z (Q7s Jq Z Z Z Z Z)<|Qq0 Z Z Z (QK Jq Z Z Z Z)<|Qq0 Z Z Z (QK Jq Z Z Z Z)<|Qq0 Z Z Z (QK Jq Z Z Z Z) ?_
   refine Qq0 Z Z Z (QK Jq Z Z Z Z)<|Qq0 Z Z Z (QK Jq Z Z Z Z)<|Qq0 Z Z Z (QK Jq Z Z Z Z)<|Qq0 Z Z Z (QK Jq Z Z Z Z)<|Qq0 Z Z Z (QK Jq Z Z Z Z)<|Qq0 Z Z Z (QK Jq Z Z Z Z)<|Qq0 Z Z Z (Q0r Qkf Z (.cons Z (.cons Z (.cons Z (.cons Z (.cons Z (.cons Z (.cons Z (.cons Z (.cons Z (.cons Z (.cons Z (.cons Z (.cons Z .nil))))))))))))) Z)<|QR Z Z (Gu Q4z Z Z Z Z Z Z)<|Q3<|Q5<|QU ?_
   have e:=Qpy h2;subst e
   exact hQ2 _ _ _ (.inr Z) Z (Qpx (Ca hv2 (Qq9 Z)) Z Z Z Z Z)
  refine Qk Z Z (Qq9 Z) (G2 Z Z Z hc8 Z (hA Z) Qqa)<|Qk Z Z (Qq9 Z) (QS Qhu Z)<|QR Z Z (Gu Q4z Z Z Z Z Z Z)<|Q3<|Q5<|Q4<|Q0<|Qk Z Z (Qq9 Z) (QS z_26 Z)<|Q3<|Q5<|Q4<|Q0<|Qq0 Z Z Z (RO.makeFunc3 Z Z Z)<|QR Z Z (Qi Qkm Z Z Z Z (Qq9 Z) Z) ?_
  refine Q3<|Q5<|Q0<|Qq0 Z Z Z (Q6 Qkm Z Z Z)<|Qq0 Z Z Z (ZO (a0:Tm) Dx Z Z) ?_
  refine Qv h1 (fun x9 hx9 h1=>?_)
  refine Qnn id hx9 h1 (fun x10 hx10 h1=>?_) (fun x11 hx11 h1=>?_)
  refine Qk Z Z (Qq9 Z) (Qo (hp1':=[(7,.cells 153 [.yld 6]),(6,.loop .done (some .ret) [(5,.v (.one (.ptr 0 0))),(10,.v (.one (.ptr 1 0))),(11,.v (.one (.ptr 2 0))),(12,.v (.one (.ptr 3 0))),(26,.v (.one (.fn 106 [(4,0)])))] 45 #[27,28] Zh Yv 5),(5,.obj (.deferred (some []))),(0,.cells 25 (Qqt a0)),(1,.cells 28 [Qqp x10.1]),(2,.cells 107 [Qqp ((⟨(max a1 0),(max a2 0),(max a3 0),(max a4 0)⟩:Scp).vars),Qqp ((⟨(max a1 0),(max a2 0),(max a3 0),(max a4 0)⟩:Scp).params),Qqp ((⟨(max a1 0),(max a2 0),(max a3 0),(max a4 0)⟩:Scp).metas),Qqp ((⟨(max a1 0),(max a2 0),(max a3 0),(max a4 0)⟩:Scp).levels)]),(3,.cells 3 [Qqp x10.2]),(4,.cells 25 (Qqt a0)),(9,.cells 156 [Qqq true,Qqq false,Qqp 0,Qqp 0,Qqp (-1),Qqq false,Qqq false,Qqp 0,Qqp 0,Qqp (-1),Qqq false,Qqq false,Qqp 1,Qqp 0,Qqp (-1),Qqq false,Qqq true,Qqp (-1),Qqp 0,Qqp (-1),Qqq false,Qqq false,Qqp 0,Qqp 2,Qqp (-1),Qqq false,Qqq false,Qqp 0,Qqp 2,Qqp 1,Qqq false,Qqq false,Qqp 0,Qqp 2,Qqp 1,Qqq false,Qqq false,Qqp 0,Qqp 2,Qqp 1,Qqq false,Qqq false,Qqp 0,Qqp 3,Qqp (-1),Qqq false,Qqq false,Qqp 0,Qqp 1,Qqp (-1),Qqq false,Qqq false,Qqp 0,Qqp 1,Qqp (-1),Qqq false,Qqq false,Qqp 0,Qqp 3,Qqp 2,Qqq true,Qqq false,Qqp 0,Qqp 0,Qqp (-1)]),(10,.cells 26 [.fn 108 [(7,0),(9,0),(10,0)]])]) (tk1':=[]) (hpF:=[(8,Qde)]) (tkF:=[]) (res2:=Qh [.one (Qqq false)]) (nx2:=13) [7,6,5,0,1,2,3,4,9,10] Z Z (CallE.m (Q6n a0 0 a0 0 (⟨(max a1 0),(max a2 0),(max a3 0),(max a4 0)⟩:Scp) 0 a0 (.inl x10) hx10)) Z Z (Qq5 Z Z (Qq5 Z Z (Qq5 Z Z (Qq5 Z Z (Qq5 Z Z (Qq5 Z Z (Qq5 Z Z (Qq5 Z Z (Qq5 Z Z (Qq5 Z Z Qq3)))))))))) Z Z (Qqk Z (Qqk Z (Qqk Z (Qqk Z (Qqk Z (Qqk Z (Qqk Z (Qqk Z (Qqk Z (Qqk Z Qqj)))))))))) Qqe (hA Z) Qqa Z Z Z Z Z (Qr0 Z) Z Z Z Z)<|Q3 ?_
  have e:=Qpy h1;subst e
  exact hQ1 _ _ _ (.inl Z) Z (show StLe _ _ ⟨[],Xc a0 x10 a1 a2 a3 a4,[],13,10,[]⟩ from (Qpx (Ca hv1 (Qq9 Z)) Z Z Z Z Z))
  refine Qk Z Z (Qq9 Z) (Qo (hp1':=[(7,.cells 153 [.yld 6]),(6,.loop .ready none [(5,.v (.one (.ptr 0 0))),(10,.v (.one (.ptr 1 0))),(11,.v (.one (.ptr 2 0))),(12,.v (.one (.ptr 3 0))),(26,.v (.one (.fn 106 [(4,0)])))] 45 #[27,28] Zh Yv 5),(5,.obj (.deferred (some []))),(0,.cells 25 (Qqt a0)),(1,.cells 28 [Qqp 0]),(2,.cells 107 [Qqp ((⟨(max a1 0),(max a2 0),(max a3 0),(max a4 0)⟩:Scp).vars),Qqp ((⟨(max a1 0),(max a2 0),(max a3 0),(max a4 0)⟩:Scp).params),Qqp ((⟨(max a1 0),(max a2 0),(max a3 0),(max a4 0)⟩:Scp).metas),Qqp ((⟨(max a1 0),(max a2 0),(max a3 0),(max a4 0)⟩:Scp).levels)]),(3,.cells 3 [Qqp x11.2]),(4,.cells 25 (Qqt a0)),(9,.cells 156 [Qqq true,Qqq false,Qqp 0,Qqp 0,Qqp (-1),Qqq false,Qqq false,Qqp 0,Qqp 0,Qqp (-1),Qqq false,Qqq false,Qqp 1,Qqp 0,Qqp (-1),Qqq false,Qqq true,Qqp (-1),Qqp 0,Qqp (-1),Qqq false,Qqq false,Qqp 0,Qqp 2,Qqp (-1),Qqq false,Qqq false,Qqp 0,Qqp 2,Qqp 1,Qqq false,Qqq false,Qqp 0,Qqp 2,Qqp 1,Qqq false,Qqq false,Qqp 0,Qqp 2,Qqp 1,Qqq false,Qqq false,Qqp 0,Qqp 3,Qqp (-1),Qqq false,Qqq false,Qqp 0,Qqp 1,Qqp (-1),Qqq false,Qqq false,Qqp 0,Qqp 1,Qqp (-1),Qqq false,Qqq false,Qqp 0,Qqp 3,Qqp 2,Qqq true,Qqq false,Qqp 0,Qqp 0,Qqp (-1)]),(10,.cells 26 [.fn 108 [(7,0),(9,0),(10,0)]])]) (tk1':=[]) (hpF:=[(8,Qde)]) (tkF:=[]) (res2:=Qh [.one (Qqq x11.1)]) (nx2:=13) [7,6,5,0,1,2,3,4,9,10] Z Z (CallE.m (Q6n a0 0 a0 0 (⟨(max a1 0),(max a2 0),(max a3 0),(max a4 0)⟩:Scp) 0 a0 (.inr x11) hx11)) Z Z (Qq5 Z Z (Qq5 Z Z (Qq5 Z Z (Qq5 Z Z (Qq5 Z Z (Qq5 Z Z (Qq5 Z Z (Qq5 Z Z (Qq5 Z Z (Qq5 Z Z Qq3)))))))))) Z Z (Qqk Z (Qqk Z (Qqk Z (Qqk Z (Qqk Z (Qqk Z (Qqk Z (Qqk Z (Qqk Z (Qqk Z Qqj)))))))))) Qqe (hA Z) Qqa Z Z Z Z Z (Qr0 Z) Z Z Z Z)<|Q3 ?_
  have e:=Qpy h1;subst e
  exact hQ1 _ _ _ (.inl Z) Z (show StLe _ _ ⟨[],m27_h11 a0 a1 a2 a3 a4 x11,[],13,10,[]⟩ from (Qpx (Ca hv1 (Qq9 Z)) Z Z Z Z Z))
 refine Qnm (C:=fun q_=>CallM Tryz.prog 106 [.one (.yld 6),.one (.ptr 4 0)] ⟨[(6,.loop .ready none [(5,.v (.one (.ptr 0 0))),(10,.v (.one (.ptr 1 0))),(11,.v (.one (.ptr 2 0))),(12,.v (.one (.ptr 3 0))),(26,.v (.one (.fn 106 [(4,0)])))] 45 #[27,28] Zh Yv 5),(5,.obj (.deferred (some []))),(0,.cells 25 (Qqt a0)),(1,.cells 28 [Qqp 0]),(2,.cells 107 [Qqp (max a1 0),Qqp (max a2 0),Qqp (max a3 0),Qqp (max a4 0)]),(3,.cells 3 [Qqp 0]),(4,.cells 25 (Qqt a0))],[],7⟩ (Qh []) ⟨(((Sum.elim (fun (y3:Int)=>(⟨[],W1 a0 a1 a2 a3 a4 y3,[],13,10,[]⟩:St)) (fun (y4:Int×Int)=>(⟨[],Xc a0 y4 a1 a2 a3 a4,[],13,10,[]⟩:St)))) q_).hp,(((Sum.elim (fun (y3:Int)=>(⟨[],W1 a0 a1 a2 a3 a4 y3,[],13,10,[]⟩:St)) (fun (y4:Int×Int)=>(⟨[],Xc a0 y4 a1 a2 a3 a4,[],13,10,[]⟩:St)))) q_).tk,(((Sum.elim (fun (y3:Int)=>(⟨[],W1 a0 a1 a2 a3 a4 y3,[],13,10,[]⟩:St)) (fun (y4:Int×Int)=>(⟨[],Xc a0 y4 a1 a2 a3 a4,[],13,10,[]⟩:St)))) q_).nx⟩) hc5 h0 (fun y3 hc5 h0=>?_) (fun y4 hc5 h0=>?_)
 replace hc5:CallM Tryz.prog 106 [.one (.yld 6),.one (.ptr 4 0)] ⟨[(6,.loop .ready none [(5,.v (.one (.ptr 0 0))),(10,.v (.one (.ptr 1 0))),(11,.v (.one (.ptr 2 0))),(12,.v (.one (.ptr 3 0))),(26,.v (.one (.fn 106 [(4,0)])))] 45 #[27,28] Zh Yv 5),(5,.obj (.deferred (some []))),(0,.cells 25 (Qqt a0)),(1,.cells 28 [Qqp 0]),(2,.cells 107 [Qqp (max a1 0),Qqp (max a2 0),Qqp (max a3 0),Qqp (max a4 0)]),(3,.cells 3 [Qqp 0]),(4,.cells 25 (Qqt a0))],[],7⟩ (Qh []) ⟨W1 a0 a1 a2 a3 a4 y3,[],13⟩:=hc5
 refine Qha (U0 (e:=.normal) rfl hc5 rfl rfl (by intro h;cases h) rfl) rfl ?_
 refine Ji<|Q5<|Q4<|QH<|Q4<|Q0<|Qq0 Z Z Z (Q6 Y1 Z Z Z)<|Qq0 Z Z Z (Qb Z Z Z)<|Qq2 Z Z Z<|Q3<|Q5 ?_
 refine Qy (b:=(decide (4096 < y3))) Z (fun c12=>?_) (fun c12=>?_)
 replace h0:=QF c12 h0
 refine Q4<|Q0<|QR Z Z (Qi GU Z Z Z Z (Qq9 Z) Z)<|Q3<|Q5<|QU ?_
 have e:=Qpy h0;subst e
 exact Zr (fun _ _ h=>h) Z (Wu GU Z Z Z .nil) (.cons (.one (.d _)) .nil)
 replace h0:=QG c12 h0
 refine Q4<|Q0<|Qq0 Z Z Z (ZO (a0:Tm) Dx Z Z) ?_
 refine Qv h0 (fun x13 hx13 h0=>?_)
 refine Qk Z Z (Qq9 Z) (Ya (m60_ok a0 x13 hx13) Z (.cons (.agg (.cons (.d _) (.cons (.d _) (.cons (.d _) (.cons (.d _) (.cons (.d _) .nil)))))) .nil))<|Qq0 Z Z Z (Qb Z Z Z)<|Qq2 Z Z Z<|Q3<|Q5 ?_
 refine Qy (b:=(decide (200 < x13))) Z (fun c14=>?_) (fun c14=>?_)
 replace h0:=QF c14 h0
 refine Q4<|Q0<|QR Z Z (Qi GU Z Z Z Z (Qq9 Z) Z)<|Q3<|Q5<|QU ?_
 have e:=Qpy h0;subst e
 exact Zr (fun _ _ h=>h) Z (Wu GU Z Z Z .nil) (.cons (.one (.d _)) .nil)
 replace h0:=QG c14 h0
 refine QY<|Ji<|Q5<|Q4<|Q0<|QR Z Z (Qi GU Z Z Z Z (Qq9 Z) Z)<|Q3<|Q5<|QU ?_
 have e:=Qpy h0;subst e
 exact Zr (fun _ _ h=>h) Z (Wu GU Z Z Z .nil) (.cons (.one (.d _)) .nil)
 replace hc5:CallM Tryz.prog 106 [.one (.yld 6),.one (.ptr 4 0)] ⟨[(6,.loop .ready none [(5,.v (.one (.ptr 0 0))),(10,.v (.one (.ptr 1 0))),(11,.v (.one (.ptr 2 0))),(12,.v (.one (.ptr 3 0))),(26,.v (.one (.fn 106 [(4,0)])))] 45 #[27,28] Zh Yv 5),(5,.obj (.deferred (some []))),(0,.cells 25 (Qqt a0)),(1,.cells 28 [Qqp 0]),(2,.cells 107 [Qqp (max a1 0),Qqp (max a2 0),Qqp (max a3 0),Qqp (max a4 0)]),(3,.cells 3 [Qqp 0]),(4,.cells 25 (Qqt a0))],[],7⟩ (Qh []) ⟨Xc a0 y4 a1 a2 a3 a4,[],13⟩:=hc5
 refine Qha (U0 (e:=.ret) rfl hc5 rfl rfl (by intro h;cases h) rfl) rfl ?_
 have e:=Qpy h0;subst e
 exact Zr (fun _ _ h=>h) Z (Wu GU Z Z Z .nil) (.cons (.one (.d _)) .nil)
def k136:KF UV:=⟨[.stc .t82],[.bool],fun v=>Q5e v⟩
theorem Qg8:Yb DV W0 Tryz.prog 136 k136:=⟨rfl,fun v r h=>DJ (Eq.mp (show _=Fun Tryz.prog 136 (QM DV k136.args v) (Qh (QM DV k136.res r)) from by kernel_rfl) (m136_ok v r h))⟩
def k110:KF UV:=⟨[.str],[.bool],fun v=>Q05 v⟩
theorem k110_ok:Yb DV W0 Tryz.prog 110 k110:=⟨rfl,fun v r h=>DJ (Eq.mp (show _=Fun Tryz.prog 110 (QM DV k110.args v) (Qh (QM DV k110.res r)) from by kernel_rfl) (m110_ok v r h))⟩
def k27:KF UV:=⟨[.stc .t25,.int .i64,.int .i64,.int .i64,.int .i64],[.int .i64],fun v=>Qlb (v.1) (v.2.1) (v.2.2.1) (v.2.2.2.1) (v.2.2.2.2)⟩
theorem Qjl:Yb DV W0 Tryz.prog 27 k27:=⟨rfl,fun v r h=>DJ (Eq.mp (show _=Fun Tryz.prog 27 (QM DV k27.args v) (Qh (QM DV k27.res r)) from by kernel_rfl) (m27_ok (v.1) (v.2.1) (v.2.2.1) (v.2.2.2.1) (v.2.2.2.2) r h))⟩
end
end Go.Proofs.YtjcfppnjamjjhaaGreatDoor
namespace Go.Proofs
noncomputable section
open Go.Shelf
def GX:Go.Shelf.Ren:=⟨fun | 7=>182 | 10=>209 | n=>n,fun | 23=>210 | 26=>3 | 3=>3 | 28=>221 | 0=>0 | 27=>220 | 33=>233 | 4=>4 | n=>n,fun | n=>n⟩
theorem Tryz.keys182:Go.Proofs.SlLaysZI.n7 Tryz.prog GX:={
 mixed:=by kernel_rfl
 f7:=⟨Tryz.f182.name,by decide,Tryz.func182.trans (congrArg some (by kernel_rfl))⟩
 f10:=⟨Tryz.f209.name,by decide,Tryz.func209.trans (congrArg some (by kernel_rfl))⟩
 t0:=Tryz.underlying0
 a0:=Tryz.isAgg0
 z0:=Tryz.sizeOf0
 v0:=Tryz.zeroValue0
 t4:=Tryz.underlying4
 a4:=Tryz.isAgg4
 z4:=Tryz.sizeOf4
 v4:=Tryz.zeroValue4
 t23:=Tryz.underlying210
 a23:=Tryz.isAgg210
 z23:=Tryz.sizeOf210
 v23:=Tryz.zeroValue210
 t26:=Tryz.underlying3
 a26:=Tryz.isAgg3
 z26:=Tryz.sizeOf3
 v26:=Tryz.zeroValue3
 t27:=Tryz.underlying220
 a27:=Tryz.isAgg220
 z27:=Tryz.sizeOf220
 v27:=Tryz.zeroValue220
 t28:=Tryz.underlying221
 a28:=Tryz.isAgg221
 z28:=Tryz.sizeOf221
 v28:=Tryz.zeroValue221
 t33:=Tryz.underlying233
 a33:=Tryz.isAgg233
 z33:=Tryz.sizeOf233
 v33:=Tryz.zeroValue233 }
def G1:Go.Shelf.Ren:=⟨fun | 6=>181 | 8=>207 | 9=>208 | 11=>221 | 13=>223 | 12=>222 | 23=>238 | 24=>191 | 14=>229 | 15=>230 | 16=>231 | 17=>232 | 18=>233 | 19=>234 | 20=>235 | 21=>236 | 22=>237 | 25=>239 | 26=>240 | 27=>241 | 28=>242 | 29=>243 | 30=>244 | 31=>245 | n=>n,fun | 26=>3 | 28=>221 | 24=>218 | 0=>0 | 3=>3 | 37=>234 | 48=>231 | 50=>195 | 4=>4 | 40=>274 | 39=>273 | 45=>167 | 5=>5 | 9=>9 | 51=>280 | 55=>284 | 57=>286 | 58=>287 | 33=>233 | n=>n,fun | n=>n⟩
theorem Tryz.sorted181:Go.Proofs.SlLaysZI.n6 Tryz.prog G1:={
 mixed:=by kernel_rfl
 f6:=⟨Tryz.f181.name,by decide,Tryz.func181.trans (congrArg some (by kernel_rfl))⟩
 f8:=⟨Tryz.f207.name,by decide,Tryz.func207.trans (congrArg some (by kernel_rfl))⟩
 f11:=⟨Tryz.f221.name,by decide,Tryz.func221.trans (congrArg some (by kernel_rfl))⟩
 t0:=Tryz.underlying0
 a0:=Tryz.isAgg0
 z0:=Tryz.sizeOf0
 v0:=Tryz.zeroValue0
 t24:=Tryz.underlying218
 a24:=Tryz.isAgg218
 z24:=Tryz.sizeOf218
 v24:=Tryz.zeroValue218
 t26:=Tryz.underlying3
 a26:=Tryz.isAgg3
 z26:=Tryz.sizeOf3
 v26:=Tryz.zeroValue3
 t28:=Tryz.underlying221
 a28:=Tryz.isAgg221
 z28:=Tryz.sizeOf221
 v28:=Tryz.zeroValue221
 i26:=by kernel_rfl }
def Tryz.sort208_ren:Go.Shelf.Ren:=⟨fun | 5=>208 | 8=>223 | 7=>222 | 19=>238 | 20=>191 | 10=>229 | 11=>230 | 12=>231 | 13=>232 | 14=>233 | 15=>234 | 16=>235 | 17=>236 | 18=>237 | 30=>239 | 31=>240 | 32=>241 | 33=>242 | 34=>243 | 35=>244 | 40=>245 | n=>n,fun | 23=>218 | 25=>3 | 3=>3 | 32=>234 | 22=>218 | 0=>0 | 44=>231 | 46=>195 | 4=>4 | 36=>274 | 35=>273 | 41=>167 | 5=>5 | 9=>9 | 53=>280 | 57=>284 | 63=>286 | 64=>287 | n=>n,fun | n=>n⟩
theorem DA:Go.Proofs.SlLaysM.n5 Tryz.prog Tryz.sort208_ren:={
 mixed:=by kernel_rfl
 f5:=⟨Tryz.f208.name,by decide,Tryz.func208.trans (congrArg some (by kernel_rfl))⟩
 f7:=⟨Tryz.f222.name,by decide,Tryz.func222.trans (congrArg some (by kernel_rfl))⟩
 f8:=Tryz.func223.trans (congrArg some (by kernel_rfl))
 f10:=⟨Tryz.f229.name,by decide,Tryz.func229.trans (congrArg some (by kernel_rfl))⟩
 f11:=⟨Tryz.f230.name,by decide,Tryz.func230.trans (congrArg some (by kernel_rfl))⟩
 f12:=⟨Tryz.f231.name,by decide,Tryz.func231.trans (congrArg some (by kernel_rfl))⟩
 f13:=⟨Tryz.f232.name,by decide,Tryz.func232.trans (congrArg some (by kernel_rfl))⟩
 f14:=⟨Tryz.f233.name,by decide,Tryz.func233.trans (congrArg some (by kernel_rfl))⟩
 f15:=⟨Tryz.f234.name,by decide,Tryz.func234.trans (congrArg some (by kernel_rfl))⟩
 f16:=⟨Tryz.f235.name,by decide,Tryz.func235.trans (congrArg some (by kernel_rfl))⟩
 f17:=⟨Tryz.f236.name,by decide,Tryz.func236.trans (congrArg some (by kernel_rfl))⟩
 f18:=⟨Tryz.f237.name,by decide,Tryz.func237.trans (congrArg some (by kernel_rfl))⟩
 f19:=Tryz.func238.trans (congrArg some (by kernel_rfl))
 f20:=Tryz.func191.trans (congrArg some (by kernel_rfl))
 f30:=⟨Tryz.f239.name,by decide,Tryz.func239.trans (congrArg some (by kernel_rfl))⟩
 f31:=Tryz.func240.trans (congrArg some (by kernel_rfl))
 f32:=Tryz.func241.trans (congrArg some (by kernel_rfl))
 f33:=⟨Tryz.f242.name,by decide,Tryz.func242.trans (congrArg some (by kernel_rfl))⟩
 f34:=⟨Tryz.f243.name,by decide,Tryz.func243.trans (congrArg some (by kernel_rfl))⟩
 f35:=⟨Tryz.f244.name,by decide,Tryz.func244.trans (congrArg some (by kernel_rfl))⟩
 f40:=⟨Tryz.f245.name,by decide,Tryz.func245.trans (congrArg some (by kernel_rfl))⟩
 t0:=Tryz.underlying0
 a0:=Tryz.isAgg0
 z0:=Tryz.sizeOf0
 v0:=Tryz.zeroValue0
 t3:=Tryz.underlying3
 a3:=Tryz.isAgg3
 z3:=Tryz.sizeOf3
 v3:=Tryz.zeroValue3
 t4:=Tryz.underlying4
 a4:=Tryz.isAgg4
 z4:=Tryz.sizeOf4
 v4:=Tryz.zeroValue4
 t5:=Tryz.underlying5
 a5:=Tryz.isAgg5
 z5:=Tryz.sizeOf5
 v5:=Tryz.zeroValue5
 t9:=Tryz.underlying9
 a9:=Tryz.isAgg9
 z9:=Tryz.sizeOf9
 v9:=Tryz.zeroValue9
 t22:=Tryz.underlying218
 a22:=Tryz.isAgg218
 z22:=Tryz.sizeOf218
 v22:=Tryz.zeroValue218
 t23:=Tryz.underlying218
 a23:=Tryz.isAgg218
 z23:=Tryz.sizeOf218
 v23:=Tryz.zeroValue218
 t25:=Tryz.underlying3
 a25:=Tryz.isAgg3
 z25:=Tryz.sizeOf3
 v25:=Tryz.zeroValue3
 t32:=Tryz.underlying234
 a32:=Tryz.isAgg234
 z32:=Tryz.sizeOf234
 v32:=Tryz.zeroValue234
 t35:=Tryz.underlying273
 a35:=Tryz.isAgg273
 z35:=Tryz.sizeOf273
 v35:=Tryz.zeroValue273
 t36:=Tryz.underlying274
 a36:=Tryz.isAgg274
 z36:=Tryz.sizeOf274
 v36:=Tryz.zeroValue274
 t41:=Tryz.underlying167
 a41:=Tryz.isAgg167
 z41:=Tryz.sizeOf167
 v41:=Tryz.zeroValue167
 t44:=Tryz.underlying231
 a44:=Tryz.isAgg231
 z44:=Tryz.sizeOf231
 v44:=Tryz.zeroValue231
 t46:=Tryz.underlying195
 a46:=Tryz.isAgg195
 z46:=Tryz.sizeOf195
 v46:=Tryz.zeroValue195
 t53:=Tryz.underlying280
 a53:=Tryz.isAgg280
 z53:=Tryz.sizeOf280
 v53:=Tryz.zeroValue280
 t57:=Tryz.underlying284
 a57:=Tryz.isAgg284
 z57:=Tryz.sizeOf284
 v57:=Tryz.zeroValue284
 t63:=Tryz.underlying286
 a63:=Tryz.isAgg286
 z63:=Tryz.sizeOf286
 v63:=Tryz.zeroValue286
 t64:=Tryz.underlying287
 a64:=Tryz.isAgg287
 z64:=Tryz.sizeOf287
 v64:=Tryz.zeroValue287 }
theorem Tryz.sorts181 (m:Nat):AnyZI.SortsIn Tryz.prog G1 Fence.wide m :=
  ⟨fun blk off cap ss W hH hblk hsz=>callsIn_wide.2 (AnyM.slices_Sort_int DA blk off cap ss W hH hblk hsz),
   fun p cap W=>callsIn_wide.2 (AnyM.slices_Sort_int_none DA p cap W)⟩
def Tryz.lays161_ren:Go.Shelf.Ren:=⟨fun | 161=>175 | 231=>166 | 227=>168 | 233=>169 | 235=>171 | 228=>196 | 197=>197 | 151=>198 | 260=>215 | 152=>216 | 137=>122 | 119=>224 | 224=>225 | 225=>226 | 217=>143 | 266=>165 | n=>n,fun | 9=>9 | 4=>4 | 3=>3 | 5=>5 | 117=>204 | 116=>203 | 0=>0 | 124=>207 | 105=>236 | 21=>21 | 119=>262 | 46=>234 | 139=>265 | 138=>264 | n=>n,fun | 3=>6 | 4=>7 | n=>n⟩
theorem Tryz.lays161:Go.Proofs.Lays.n161 Tryz.prog Tryz.lays161_ren:={
 mixed:=by kernel_rfl
 f119:=Tryz.func224.trans (congrArg some (by kernel_rfl))
 f137:=Tryz.func122.trans (congrArg some (by kernel_rfl))
 f151:=Tryz.func198.trans (congrArg some (by kernel_rfl))
 f152:=Tryz.func216.trans (congrArg some (by kernel_rfl))
 f161:=Tryz.func175.trans (congrArg some (by kernel_rfl))
 f197:=Tryz.func197.trans (congrArg some (by kernel_rfl))
 f217:=Tryz.func143.trans (congrArg some (by kernel_rfl))
 f224:=Tryz.func225.trans (congrArg some (by kernel_rfl))
 f225:=Tryz.func226.trans (congrArg some (by kernel_rfl))
 f227:=Tryz.func168.trans (congrArg some (by kernel_rfl))
 f228:=Tryz.func196.trans (congrArg some (by kernel_rfl))
 f231:=Tryz.func166.trans (congrArg some (by kernel_rfl))
 f233:=Tryz.func169.trans (congrArg some (by kernel_rfl))
 f235:=Tryz.func171.trans (congrArg some (by kernel_rfl))
 f260:=Tryz.func215.trans (congrArg some (by kernel_rfl))
 f266:=Tryz.func165.trans (congrArg some (by kernel_rfl))
 t0:=Tryz.underlying0
 a0:=Tryz.isAgg0
 z0:=Tryz.sizeOf0
 v0:=Tryz.zeroValue0
 t3:=Tryz.underlying3
 a3:=Tryz.isAgg3
 z3:=Tryz.sizeOf3
 v3:=Tryz.zeroValue3
 t4:=Tryz.underlying4
 a4:=Tryz.isAgg4
 z4:=Tryz.sizeOf4
 v4:=Tryz.zeroValue4
 t5:=Tryz.underlying5
 a5:=Tryz.isAgg5
 z5:=Tryz.sizeOf5
 v5:=Tryz.zeroValue5
 t9:=Tryz.underlying9
 a9:=Tryz.isAgg9
 z9:=Tryz.sizeOf9
 v9:=Tryz.zeroValue9
 t21:=Tryz.underlying21
 a21:=Tryz.isAgg21
 z21:=Tryz.sizeOf21
 v21:=Tryz.zeroValue21
 t46:=Tryz.underlying234
 a46:=Tryz.isAgg234
 z46:=Tryz.sizeOf234
 v46:=Tryz.zeroValue234
 t105:=Tryz.underlying236
 a105:=Tryz.isAgg236
 z105:=Tryz.sizeOf236
 v105:=Tryz.zeroValue236
 t116:=Tryz.underlying203
 a116:=Tryz.isAgg203
 z116:=Tryz.sizeOf203
 t117:=Tryz.underlying204
 a117:=Tryz.isAgg204
 z117:=Tryz.sizeOf204
 v117:=Tryz.zeroValue204
 t119:=Tryz.underlying262
 a119:=Tryz.isAgg262
 z119:=Tryz.sizeOf262
 t124:=Tryz.underlying207
 a124:=Tryz.isAgg207
 z124:=Tryz.sizeOf207
 v124:=Tryz.zeroValue207
 t138:=Tryz.underlying264
 a138:=Tryz.isAgg264
 z138:=Tryz.sizeOf264
 v138:=Tryz.zeroValue264
 t139:=Tryz.underlying265
 a139:=Tryz.isAgg265
 z139:=Tryz.sizeOf265
 v139:=Tryz.zeroValue265
 g3:=by kernel_rfl
 g4:=by kernel_rfl }
def Tryz.lays103_ren:Go.Shelf.Ren:=⟨fun | 103=>176 | 210=>205 | 206=>148 | n=>n,fun | 9=>9 | 4=>4 | 24=>213 | 3=>3 | n=>n,fun | n=>n⟩
theorem Tryz.lays103:Go.Proofs.Lays.n103 Tryz.prog Tryz.lays103_ren:={
 mixed:=by kernel_rfl
 f103:=Tryz.func176.trans (congrArg some (by kernel_rfl))
 f206:=Tryz.func148.trans (congrArg some (by kernel_rfl))
 f210:=Tryz.func205.trans (congrArg some (by kernel_rfl))
 t3:=Tryz.underlying3
 a3:=Tryz.isAgg3
 z3:=Tryz.sizeOf3
 v3:=Tryz.zeroValue3
 t4:=Tryz.underlying4
 a4:=Tryz.isAgg4
 z4:=Tryz.sizeOf4
 v4:=Tryz.zeroValue4
 t9:=Tryz.underlying9
 a9:=Tryz.isAgg9
 z9:=Tryz.sizeOf9
 v9:=Tryz.zeroValue9
 t24:=Tryz.underlying213
 a24:=Tryz.isAgg213
 z24:=Tryz.sizeOf213
 v24:=Tryz.zeroValue213 }
end
end Go.Proofs
namespace Go.Proofs.YtjcfppnjamjjhaaGreatDoor
noncomputable section
open Go.RowKit Go.Maps Go.Shelf
def Qed (ents:Array MapEntry) (l:List (Int×Int×Nat)):Prop:=ents.toList=l.map fun e=>⟨.int .i64 e.1,.int .i64 e.2.1,e.2.2⟩
abbrev Qrb:Value→Option (DataW Unit×List MemPlace):=fun _=>some (.lit (.bool false),[])
theorem owns_im {P:Program} {w:World} {b:Nat} {M:Qt} {ents:Array MapEntry} (hk:P.underlying 3=some (.int .i64)) (hM:Q5h M=true) (hb:w.heap[b]?=some (.map ents M.2)) (he:Qed ents M.1) :
  ∃ D,w.ownsMap P 3 Qrb b M.1.length D∧(intKeys D).Perm (M.1.map fun e=>e.1)∧Maps.size D=M.1.length:=by
 unfold Q5h at hM
 have h1:=QV hM;rw [h1] at hM;simp only [C6] at hM
 have h2:=QV hM;rw [h2] at hM;simp only [C6] at hM
 have h3:=QV hM;rw [h3] at hM;simp only [C6] at hM
 have hlen:M.1.length≤1000000:=C3 h1
 have hall:∀ e∈M.1,e.2.2 < M.2∧-9223372036854775808≤e.1∧e.1≤9223372036854775807:=fun e he=>by
  have:=Cf.1 h2 e he
  have a1:=QV this;rw [a1] at this;simp only [C6] at this
  have a2:=QV this;rw [a2] at this;simp only [C6] at this
  exact ⟨C3 a1,CH a2,CH this⟩
 have hkey:∀ e∈M.1,Go.keyOf P 3 (.int .i64 e.1)=some (.int .i64 e.1):=fun e he=>by
  obtain ⟨-,h4,h5⟩:=hall e he
  exact keyOf_int_mk hk (by show (decide (_≤_)&&decide (_≤_))=true;rw [CD];exact ⟨C9 h4,C9 h5⟩)
 have hsz:ents.size=M.1.length:=by rw [← Po,he,Cm]
 have hrd:∀ e∈M.1,Go.WideElems.rd P 3 Qrb ⟨.int .i64 e.1,.int .i64 e.2.1,e.2.2⟩=some (.int .i64 e.1,.lit (.bool false)):=fun e he=>by
  simp [Go.WideElems.rd,hkey e he,Qrb]
 refine ⟨_,⟨ents,M.2,hb,⟨?_,⟨?_,?_,?_⟩,?_⟩,Pa hsz,Z⟩,?_,?_⟩
 ·rw [hsz];unfold maxLen;omega
 ·intro x hx;rw [he] at hx;obtain ⟨e,h4,rfl⟩:=Cw.1 hx;exact (hall e h4).1
 ·rw [he,CI];exact DX h3
 ·rw [he,CI]
  have:=DX hM
  rw [show (fun x:MapEntry=>x.key) ∘ (fun e:Int×Int×Nat=>(⟨.int .i64 e.1,.int .i64 e.2.1,e.2.2⟩:MapEntry))=(Value.int .i64) ∘ fun e=>e.1 from rfl,← CI]
  exact SL.2 (this.imp fun hne h=>hne (by cases h;rfl))
 ·intro x hx;rw [he] at hx;obtain ⟨e,h4,rfl⟩:=Cw.1 hx;exact ⟨_,hrd e h4⟩
 ·show (List.map _ _).Perm _
  refine ((WideShapes.sorted_perm _).map _).trans ?_
  rw [he,CI,CI]
  refine .of_eq (Cx fun e h4=>?_)
  simp [Go.WideElems.rg,hrd e h4];rfl
 ·simp [Maps.size,length_sorted,hsz]
theorem imOk_len {M:Qt} (hM:Q5h M=true):M.1.length≤1000000:=C3 (QV hM)
theorem sortedKeys_run {w:World} {Bm b:Nat} {M:Qt} {ents:Array MapEntry} (hM:Q5h M=true) (hBm:w.cell? ⟨Bm,0,none⟩=some (.map (some b))) (hlt:Bm < w.heap.size) (hb:w.heap[b]?=some (.map ents M.2)) (he:Qed ents M.1) :
  CallsIn Fence.wide 5 Tryz.prog 181 #[.func (.func 209) #[] #[.pointer (some ⟨Bm,0,none⟩)]] w fun e w'=>∃ v,e=.returned v∧w'.ownsRow w.heap.size 3 1 v (JC M).length ((JC M).map (Value.int .i64))∧Below w.heap.size w w':=by
 obtain ⟨D,hown,hperm,hsize⟩:=owns_im (P:=Tryz.prog) (by kernel_rfl) hM hb he
 have hlen:=imOk_len hM
 have hseq:SeqGives Fence.wide 2 Tryz.prog 209 #[.pointer (some ⟨Bm,0,none⟩)] encZ (fun ss=>ss.Perm (intKeys D)) (Maps.size D) w :=
  AnyZI.keys_gives (ρ:=GX) { Tryz.keys182 with } Fence.wide _ trivial rfl (by omega) Bm b _ D w hlt hBm hown
 have hrun:=AnyZI.sorted_in Tryz.sorted181 Fence.wide 5 trivial trivial trivial trivial rfl (by omega) (Tryz.sorts181 _) (enters_of Tryz.func208 (by kernel_rfl) rfl) 209 #[.pointer (some ⟨Bm,0,none⟩)] trivial (enters_of Tryz.func209 (by kernel_rfl) rfl) _ _ (by rw [hsize];unfold maxLen;omega) (by rw [hsize];omega) _ hseq
 refine CallsIn.mono (show CallsIn _ _ Tryz.prog 181 _ _ _ from hrun) ?_
 rintro e w' ⟨v,ss,rfl,hS,hrow,-,hbel⟩
 have hp:=hS.trans hperm
 rw [mergeSort_sortZ hp] at hrow
 have hl:ss.length=(JC M).length:=hp.length_eq.trans (ZB _).length_eq.symm
 rw [hl] at hrow
 exact ⟨v,Z,hrow,hbel⟩
theorem reads_row {w:World} {S:Nat→Nat→Prop} {base:Nat} {v:Value} {l:List Int} (h:w.ownsRow base 3 1 v l.length (l.map (Value.int .i64))) (hS:∀ b o,base≤b→b < w.heap.size→S b o):Reads S w (.sl 1 (Enc.encL l)) v:=by
 rcases h.2 with ⟨rfl,h0⟩ | ⟨g,cap,cur,rfl,hg,hcur,hn,-,hsz,htk⟩
 ·have:l=[]:=CC h0
  subst this
  exact .sl 1 [] none 0 0 0 (fun _ _=>undef) (Ck _) (fun h=>absurd rfl h) (fun i e h=>by simp at h) (fun i e j c h=>by simp at h) (fun i e j c h=>by simp at h) (fun i e j c h=>by simp at h)
 ·have hlt:g < w.heap.size:=Y9 hcur
  have hget:∀ (i:Nat) (e:List C),(Enc.encL l)[i]?=some e→∃ x,l[i]?=some x∧e=[.v (.int .i64 x)]:=fun i e hi=>by
   rw [Enc.map,Cl] at hi
   cases hx:l[i]? with
   | none=>rw [hx] at hi;cases hi
   | some x=>rw [hx] at hi;cases hi;exact ⟨x,rfl,rfl⟩
  have hcell:∀ (i:Nat) (x:Int),l[i]?=some x→w.cell? ⟨g,i,none⟩=some (.int .i64 x):=fun i x hx=>by
   have hi:i < l.length:=(Cg.1 hx).1
   have h1:(cur.toList.take (l.length * 1))[i]?=some (.int .i64 x):=by rw [htk,Cl,hx];rfl
   rw [Pd] at h1
   rw [Cd (by omega)] at h1
   simp only [World.cell?,hcur,P5,P3,if_false]
   rw [← Pt];exact h1
  have:=Reads.sl (S:=S) (w:=w) 1 (Enc.encL l) (some ⟨g,0,none⟩) cap g 0 (fun i j=>.int .i64 (l.getD i 0)) (by rw [Enc.len];exact hn) (fun _=>rfl)
   (fun i e hi=>by obtain ⟨x,-,rfl⟩:=hget i e hi;rfl)
   (fun i e j c hi hj=>by
    obtain ⟨x,hx,rfl⟩:=hget i e hi
    cases j with
    | zero=>rw [S5,hx];simpa using hcell i x hx
    | succ j=>simp at hj)
   (fun i e j c hi hj=>hS _ _ hg hlt)
   (fun i e j c hi hj=>by
    obtain ⟨x,hx,rfl⟩:=hget i e hi
    cases j with
    | zero=>simp at hj;subst hj;rw [S5,hx];exact Reads.v _ rfl
    | succ j=>simp at hj)
  rw [Enc.len] at this;exact this
theorem sortedKeys_call {m:Mem} {b i:Nat} {T:TypeId} {M:Qt} (hb:Qq8 m.hp b=some (.cells T [.mp i])) (hi:Qq8 m.hp i=some (.mp (Jz M.1) M.2)) (hM:Q5h M=true) :
  CallM Tryz.prog 181 [.one (.fn 209 [(b,0)])] m (.v (.one (.d (.sl 1 (Enc.encL (JC M)))))) m:=by
 refine ⟨enters_of Tryz.func181 (by kernel_rfl) rfl,fun E V w vs hP H hn hargs=>?_⟩
 obtain ⟨hbl,o,ho,us,rfl,hus⟩:=H.own b _ hb
 obtain ⟨u,hu,-,rfl⟩:=hus.2 0 _ rfl
 obtain ⟨-,o2,ho2,ents,rfl,hsz,hents⟩:=H.own i _ hi
 obtain ⟨a,ha,-,rfl⟩:=hargs.2 0 _ rfl
 have hvs:vs=#[.func (.func 209) #[] #[.pointer (some ⟨V.ι b,0,none⟩)]]:=by
  have h1:vs.size=1:=hargs.1
  apply PC
  intro k
  cases k with
  | zero=>rw [ha];rfl
  | succ k=>simp [h1]
 rw [hvs]
 have hE:Qed ents M.1:=by
  have hlen:(Jz M.1).length=M.1.length:=by simp [Jz]
  apply Sj
  intro k
  rw [Cl]
  cases hk:M.1[k]? with
  | none =>
   have:M.1.length≤k:=Pr.1 hk
   rw [Pz,Pr,Po];omega
  | some e =>
   obtain ⟨v,h1,h2⟩:=hents k (.int .i64 e.1) (.one (.d (.v (.int .i64 e.2.1)))) e.2.2 (by simp [Jz,hk])
   have hv:v=.int .i64 e.2.1:=by cases h2;rfl
   rw [hv] at h1
   rw [Pt,h1];rfl
 refine Calls.mono ((callsIn_wide (n:=5)).1 (sortedKeys_run (Bm:=V.ι b) (b:=V.ι i) hM ?_ (Y9 ho) ho2 hE)) ?_
 ·simp only [World.cell?,ho,P5,P3,if_false];exact hu
 ·rintro e w' ⟨v,rfl,hrow,hbel⟩
  have hx:Gv w w':=⟨hbel.os,hbel.tape,hbel.output,hbel.size,fun k hk _=>hbel.block k hk⟩
  have hg:V.Grow { V with S:=fun b o=>V.S b o∨(w.heap.size≤b∧b < w'.heap.size)} w w':=⟨Ck _,fun _ _=>rfl,fun _ _=>rfl,fun _ _ _ _=>rfl,fun b o h=>.inl h,fun b o h=>h.elim .inl fun h=>.inr h.1,
   fun b o h=>h.elim (fun h=>Cj (H.sz b o h) hbel.size) fun h=>h.2⟩
  exact ⟨v,_,Z,H.later hx hg,hn,H.le hx hg,reads_row hrow (fun b o h1 h2=>.inr ⟨h1,h2⟩)⟩
theorem OpOK.sortedKeys {E:Env} {st:St} {dd:Option Tmp} {ty:TypeId} {pos:String} {af:Array Edge} {g:Option (Nat×Bool)} {xs:Array Operand} {ats:Array TypeId} {b i:Nat} {T:TypeId} {M:Qt} (hP:E.P=Tryz.prog) (ha:Yz st.tm xs.toList=some [.one (.fn 209 [(b,0)])])
  (hb:Qq8 st.hp b=some (.cells T [.mp i])) (hi:Qq8 st.hp i=some (.mp (Jz M.1) M.2)) (hM:Q5h M=true) :
  OpOK E ⟨dd,.call { callee:=.value (.func 181),args:=xs,argTypes:=ats },ty,pos,af,g⟩ st (.v (.one (.d (.sl 1 (Enc.encL (JC M)))))) ⟨st.hp,st.tk,st.nx⟩ :=
 Q7t (E:=E) (st:=st) (dd:=dd) (ty:=ty) (pos:=pos) (af:=af) (g:=g) (x:=.func 181) (caps:=[]) rfl ha (by rw [hP];exact sortedKeys_call hb hi hM)
end
noncomputable section
open Go.RowKit Go.Shelf
theorem Wx {P:Program} {f:FuncId} {vs0:List Value} {res:TV} (v:Value) (hen:Qc P f) (hres:∀ V w,res.rel V w v) (h:∀ w,Calls P f vs0.toArray w fun e w'=>e=.returned v∧Gv w w'):Fun P f (vs0.map fun a=>.one (.d (.v a))) res:=by
 refine ⟨hen,fun S w vs hS hargs=>?_⟩
 have hsz:vs.size=vs0.length:=by rw [hargs.1,Cm]
 have hvs:vs=vs0.toArray:=by
  apply PC
  intro k
  cases hk:vs0[k]? with
  | none =>
   have:=Pr.1 hk
   rw [CZ (by omega)]
   simp [hk]
  | some a =>
   obtain ⟨u,h1,h2⟩:=hargs.2 k (.one (.d (.v a))) (by rw [Cl,hk];rfl)
   have e:u=a:=by cases h2;rfl
   rw [h1,e]
   simp [hk]
 rw [hvs]
 exact (h w).mono fun e w' ⟨he,hx⟩=>⟨v,S,he,hx,fun _ _ h=>h,fun b o h=>⟨.inl h,Cj (hS b o h) hx.size⟩,hres _ _⟩
theorem trim_fun (s:List UInt8):Fun Tryz.prog 175 [.one (ZT s),.one (ZT [32])] (Qr5 (s.dropWhile (·==32))):=by
 refine Wx (vs0:=[.string (Qpz s),.string (Qpz [32])]) (.string (Qpz (s.dropWhile (·==32)))) (enters_of Tryz.func175 (by kernel_rfl) rfl) (fun V w=>J4 rfl) fun w=>?_
 refine Calls.mono (Any.strings_TrimLeft_one Tryz.lays161 (Qpz s) 32 (by decide) w) ?_
 rintro e w' ⟨rfl,rfl⟩
 exact ⟨Z,ExtM.refl _ _⟩
theorem Q2c {v:Value} (h:v.oneCell'=true):∀ V w,(AV.one (.d (.v v))).rel V w v:=fun V w=>Reads.v v h
theorem cut_fun (s p:List UInt8):Fun Tryz.prog 176 [.one (ZT s),.one (ZT p)] (.tup [.one (ZT (Lib.trimPrefix s p)),.one (.d (.v (.bool (Lib.hasPrefix s p))))]):=by
 refine Wx (vs0:=[.string (Qpz s),.string (Qpz p)]) (.tuple #[.string (Qpz (Lib.trimPrefix s p)),.bool (Lib.hasPrefix s p)]) (enters_of Tryz.func176 (by kernel_rfl) rfl) (Qmh (Q2c rfl) (Q2c rfl)) fun w=>?_
 refine Calls.mono (Any.strings_CutPrefix Tryz.lays103 (Qpz s) (Qpz p) w) ?_
 rintro e w' ⟨rfl,rfl⟩
 exact ⟨Z,ExtM.refl _ _⟩
def Q1n (s:List UInt8):Int:=(Lib.atoi s).getD 0
theorem atoi_fun (s:List UInt8) (h:(cond (Nat.ble s.length 18) (Lib.atoi s).isSome false)=true):Fun Tryz.prog 147 [.one (ZT s)] (.tup [.one (.d (.v (.int .i64 (Q1n s)))),.one (.d (.v .nilIface))]):=by
 have h0:=C3 (QV h)
 obtain ⟨n,hn⟩:=Option.isSome_iff_exists.1 (QP h)
 have e:Q1n s=n:=by unfold Q1n;rw [hn];rfl
 rw [e]
 refine Wx (vs0:=[.string (Qpz s)]) (.tuple #[.int .i64 n,.nilIface]) (enters_of Tryz.func147 (by kernel_rfl) rfl) (Qmh (Q2c rfl) (Q2c rfl)) fun w=>?_
 refine Calls.mono (Any.strconv_Atoi DC (Qpz s) n (by rw [YC];exact h0) hn w) ?_
 rintro e w' ⟨rfl,t,rfl⟩
 exact ⟨Z,Km (Lib.bytesWorld_below _ _ _)⟩
end
noncomputable section
open Go.RowKit Go.Shelf
theorem Yx:QO Tryz.prog 188 0=some 0:=by kernel_rfl
theorem Wj:QO Tryz.prog 188 1=some 1:=by kernel_rfl
theorem Wi:QO Tryz.prog 188 2=some 2:=by kernel_rfl
theorem Qbt:QO Tryz.prog 188 3=some 3:=by kernel_rfl
theorem Q45:QO Tryz.prog 212 0=some 0:=by kernel_rfl
theorem Q44:QO Tryz.prog 212 1=some 1:=by kernel_rfl
theorem Qkn:Jd Tryz.prog 185=some (false,1):=by kernel_rfl
theorem Qeb:Jd Tryz.prog 210=some (false,1):=by kernel_rfl
theorem Qi9:QW Tryz.prog 218=some (3,1):=by kernel_rfl
theorem XD:Y3 Tryz.prog 82 [(0,1),(1,1)] [.int .i64 0,.slice none 0 0]:=⟨by kernel_rfl,by kernel_rfl⟩
theorem Qkg:Y3 Tryz.prog 142 [(0,1),(1,1)] [.int .i64 0,.int .i64 0]:=⟨by kernel_rfl,by kernel_rfl⟩
theorem bd_188:Y3 Tryz.prog 188 [(0,1),(1,1),(2,1),(3,1)] [.string ByteArray.empty,.bool false,.int .i64 0,.pointer none]:=⟨by kernel_rfl,by kernel_rfl⟩
theorem bd_212:Y3 Tryz.prog 212 [(0,1),(1,1)] [.map none,.int .i64 0]:=⟨by kernel_rfl,by kernel_rfl⟩
theorem el_142:K7 Tryz.prog 142=some (2,16):=by kernel_rfl
theorem Qd6:UM Tryz.prog 210=some (true,.one (.d (.v (.int .i64 0)))):=by kernel_rfl
theorem en_127:Qc Tryz.prog 127:=enters_of Tryz.func127 (by kernel_rfl) rfl
theorem en_149:Qc Tryz.prog 149:=enters_of Tryz.func149 (by kernel_rfl) rfl
theorem en_150:Qc Tryz.prog 150:=enters_of Tryz.func150 (by kernel_rfl) rfl
theorem en_151:Qc Tryz.prog 151:=enters_of Tryz.func151 (by kernel_rfl) rfl
theorem en_152:Qc Tryz.prog 152:=enters_of Tryz.func152 (by kernel_rfl) rfl
theorem en_153:Qc Tryz.prog 153:=enters_of Tryz.func153 (by kernel_rfl) rfl
theorem en_177:Qc Tryz.prog 177:=enters_of Tryz.func177 (by kernel_rfl) rfl
theorem en_178:Qc Tryz.prog 178:=enters_of Tryz.func178 (by kernel_rfl) rfl
theorem en_179:Qc Tryz.prog 179:=enters_of Tryz.func179 (by kernel_rfl) rfl
theorem en_180:Qc Tryz.prog 180:=enters_of Tryz.func180 (by kernel_rfl) rfl
theorem en_182:Qc Tryz.prog 182:=enters_of Tryz.func182 (by kernel_rfl) rfl
theorem en_183:Qc Tryz.prog 183:=enters_of Tryz.func183 (by kernel_rfl) rfl
theorem en_206:Qc Tryz.prog 206:=enters_of Tryz.func206 (by kernel_rfl) rfl
abbrev m150f0_h0 (p0_:Qrl) (p1_:Bool) (p2_:Int) (p3_:Int) (p4_:Qt):List (Nat×HB) :=
 [(0,.cells 188 [ZT p0_,Qqq p1_,Qqp p2_,.ptr 1 0]),(1,.cells 212 [.mp 2,Qqp p3_]),(2,.mp (Jz p4_.1) p4_.2)]
abbrev m150f0_h1 (p0_:Qrl) (p1_:Bool) (p2_:Int):HB :=
 .cells 188 [ZT (p0_.dropWhile (·==32)),Qqq p1_,Qqp p2_,.ptr 1 0]
abbrev Q6m (p0_:Qrl) (p1_:Bool) (p2_:Int) (p3_:Int) (p4_:Qt):List (Nat×HB) :=
 [(0,m150f0_h1 p0_ p1_ p2_),(1,.cells 212 [.mp 2,Qqp p3_]),(2,.mp (Jz p4_.1) p4_.2)]
def JI (a0:Qrl) (a1:Bool) (a2:Int) (a3:Int) (a4:Qt):Option Unit :=
 some ()
theorem ZF (a0:Qrl) (a1:Bool) (a2:Int) (a3:Int) (a4:Qt) (r:Unit) (h0:JI a0 a1 a2 a3 a4=some r):CallM Tryz.prog 150 [.one (.ptr 0 0)] ⟨m150f0_h0 a0 a1 a2 a3 a4,[],3⟩ (Qh []) ⟨Q6m a0 a1 a2 a3 a4,[],3⟩:=by
 unfold JI at h0
 refine Qp ⟨[],Q6m a0 a1 a2 a3 a4,[],3,10,[]⟩ Z Z en_150 (Qq9 Z) Z .nil (fun w0 M V0 Q hv0 hQ0=>?_)
 simp only [J5]
 refine Q0<|Qq1 Z Z Z<|Qq1 Z Z Z<|Qq0 Z Z Z (Qe Z)<|Qq0 Z Z Z (Q2 Yx Z)<|Qq0 Z Z Z (Q6 Q0q Z Z Z) ?_
 refine Qk Z Z (Qq9 Z) (Ya (trim_fun a0) Z (.cons (.one (.d _)) (.cons (.one (.d _)) .nil))) ?_
 refine Qq0 Z Z Z (Qe Z)<|Qq0 Z Z Z (Q2 Yx Z)<|QR Z Z (Qi Q0q Z Z Z Z (Qq9 Z) Z)<|Q3 ?_
 have e:=Qpy h0;subst e
 exact hQ0 _ _ _ (.inl Z) Z (J2 Qps (hA Z) Qqa Z (Ca hv0 (Qq9 Z)) Z Z Z (Qqz Z Z (Qqz Z Z (Qqy Z Qqx))) Z Z)
abbrev m151f1_h0 (p0_:Qrl) (p1_:Bool) (p2_:Int) (p3_:Int) (p4_:Qt):List (Nat×HB) :=
 [(0,.cells 188 [ZT p0_,Qqq p1_,Qqp p2_,.ptr 1 0]),(1,.cells 212 [.mp 2,Qqp p3_]),(2,.mp (Jz p4_.1) p4_.2)]
abbrev Q6l (p0_:(Qrl)) (p1_:Bool) (p2_:Int) (p3_:Int) (p4_:Qt):List (Nat×HB) :=
 [(0,.cells 188 [ZT p0_,Qqq p1_,Qqp p2_,.ptr 1 0]),(1,.cells 212 [.mp 2,Qqp p3_]),(2,.mp (Jz p4_.1) p4_.2)]
def Yk (a0:Qrl) (a1:Qrl) (a2:Bool) (a3:Int) (a4:Int) (a5:Qt):Option ((Qrl)) :=
 cond (Lib.hasPrefix a1 a0)
   (some (Lib.trimPrefix a1 a0))
   (some a1)
theorem ZE (a0:Qrl) (a1:Qrl) (a2:Bool) (a3:Int) (a4:Int) (a5:Qt) (r:(Qrl)) (h0:Yk a0 a1 a2 a3 a4 a5=some r):CallM Tryz.prog 151 [.one (.ptr 0 0),.one (ZT a0)] ⟨m151f1_h0 a1 a2 a3 a4 a5,[],3⟩ (Qh [.one (Qqq (Lib.hasPrefix a1 a0))]) ⟨Q6l r a2 a3 a4 a5,[],3⟩:=by
 unfold Yk at h0
 refine Qp ⟨[(4,.v (.one (Qqq (Lib.hasPrefix a1 a0))))],Q6l r a2 a3 a4 a5,[],3,22,[]⟩ Z Z en_151 (Qq9 Z) Z (Jk Z .nil) (fun w0 M V0 Q hv0 hQ0=>?_)
 simp only [J5]
 refine Q4<|Q0<|Qq2 Z Z Z<|Q3<|Q5<|Q4<|Q0<|Qq1 Z Z Z<|Qq0 Z Z Z (Qe Z)<|Qq0 Z Z Z (Q2 Yx Z)<|Qq0 Z Z Z (Q6 Q0q Z Z Z)<|Qq1 Z Z Z ?_
 refine Qk Z Z (Qq9 Z) (Ya (cut_fun a1 a0) Z (.cons (.one (.d _)) (.cons (.one (.d _)) .nil))) ?_
 refine Qq1 Z Z Z<|Qq0 Z Z Z (J8 Z Z)<|Qq0 Z Z Z (J8 Z Z)<|Qq2 Z Z Z<|Qq2 Z Z Z<|Q3<|Q5<|Q4<|Q4<|Q0<|Qq1 Z Z Z<|Q3<|Q5 ?_
 refine Qy (b:=(Lib.hasPrefix a1 a0)) Z (fun c1=>?_) (fun c1=>?_)
 replace h0:=QF c1 h0
 refine Q0<|Qq1 Z Z Z<|Qq1 Z Z Z<|Qq0 Z Z Z (Qe Z)<|Qq0 Z Z Z (Q2 Yx Z)<|QR Z Z (Qi Q0q Z Z Z Z (Qq9 Z) Z)<|Q3<|Q5<|Q4<|Q0<|Qq1 Z Z Z<|Qq2 Z Z Z<|Q3<|Q5 ?_
 refine QU ?_
 have e:=Qpy h0;subst e
 exact hQ0 _ _ _ (.inr Z) Z (J2 (Qpw Z) (hA Z) Qqa Z (Ca hv0 (Qq9 Z)) Z Z Z (Qqz Z Z (Qqz Z Z (Qqy Z Qqx))) Z Z)
 replace h0:=QG c1 h0
 refine QY<|Q5<|Q4<|Q0<|Qq1 Z Z Z<|Qq2 Z Z Z<|Q3<|Q5<|QU ?_
 have e:=Qpy h0;subst e
 exact hQ0 _ _ _ (.inr Z) Z (J2 (Qpw Z) (hA Z) Qqa Z (Ca hv0 (Qq9 Z)) Z Z Z (Qqz Z Z (Qqz Z Z (Qqy Z Qqx))) Z Z)
def GE (a0:Qrl) (s1:Int):Option (LO Int Int) :=
 Option.bind (cond (decide (s1 < (a0.length:Int)))
   (Option.bind (J0 a0 s1) fun (x4:UInt8) =>
 cond (decide (48≤(x4.toNat:Int)))
   (Option.bind (J0 a0 s1) fun (x6:UInt8) =>
 some (decide ((x6.toNat:Int)≤57)))
   (some false))
   (some false)) (fun (v2:Bool)=>cond v2
   (some (.next (Qm (s1+1))))
   (some (.done s1)))
abbrev WD (p0_:Qrl) (p1_:Bool) (p2_:Int) (p3_:Int) (p4_:Qt):List (Nat×HB) :=
 [(0,.cells 188 [ZT p0_,Qqq p1_,Qqp p2_,.ptr 1 0]),(1,.cells 212 [.mp 2,Qqp p3_]),(2,.mp (Jz p4_.1) p4_.2)]
abbrev m177f3_h1 (p0_:Qrl) (p1_:Int) (p2_:Bool) (p3_:Int) (p4_:Int) (p5_:Qt):List (Nat×HB) :=
 [(0,.cells 188 [ZT (p0_.drop p1_.toNat),Qqq p2_,Qqp p3_,.ptr 1 0]),(1,.cells 212 [.mp 2,Qqp p4_]),(2,.mp (Jz p5_.1) p5_.2)]
abbrev Q6d (p0_:(Int×Qrl×Bool)) (p1_:Int) (p2_:Int) (p3_:Qt):List (Nat×HB) :=
 [(0,.cells 188 [ZT p0_.2.1,Qqq p0_.2.2,Qqp p1_,.ptr 1 0]),(1,.cells 212 [.mp 2,Qqp p2_]),(2,.mp (Jz p3_.1) p3_.2)]
def YP (a0:Qrl) (a1:Bool) (a2:Int) (a3:Int) (a4:Qt):Option ((Int×Qrl×Bool)) :=
 Option.bind (Q9 (GE a0) Qd 0) (fun (o1:Int)=>Q7 (cond (decide (0≤o1)) (Nat.ble o1.toNat a0.length) false)
 (Q7 (cond (decide (0≤o1)) (Nat.ble o1.toNat a0.length) false)
 (Option.bind (cond (o1==0)
   (some true)
   (cond (decide (6 < o1))
   (some true)
   (cond (decide (1 < o1))
   (Option.bind (J0 (a0.take o1.toNat) 0) fun (x8:UInt8) =>
 some ((x8.toNat:Int)==48))
   (some false)))) (fun (v4:Bool)=>cond v4
   (some (0,(a0.drop o1.toNat),true))
   (Q7 ((cond (Nat.ble (a0.take o1.toNat).length 18) (Lib.atoi (a0.take o1.toNat)).isSome false))
 (some ((Q1n (a0.take o1.toNat)),(a0.drop o1.toNat),a1)))))))
theorem Q02 (a0:Qrl) (a1:Bool) (a2:Int) (a3:Int) (a4:Qt) (r:(Int×Qrl×Bool)) (h0:YP a0 a1 a2 a3 a4=some r):CallM Tryz.prog 177 [.one (.ptr 0 0)] ⟨WD a0 a1 a2 a3 a4,[],3⟩ (Qh [.one (Qqp r.1)]) ⟨Q6d r a2 a3 a4,[],3⟩:=by
 unfold YP at h0
 refine Qp ⟨[(2,.v (.one (Qqp r.1)))],Q6d r a2 a3 a4,[],3,73,[]⟩ Z Z en_177 (Qq9 Z) Z (Jk Z .nil) (fun w0 M V0 Q hv0 hQ0=>?_)
 simp only [J5]
 refine Q4<|Q0<|Qq2 Z Z Z<|Q3<|Q5<|Q4<|Q0<|Qq2 Z Z Z<|Q3<|Q5<|Q4<|QH ?_
 refine G0 0 (fun (o1:Int)=>⟨[(0,.v (.one (.ptr 0 0))),(3,.v (.one (Qqp o1)))],WD a0 a1 a2 a3 a4,[],3,73,[]⟩) (fun (o1:Int)=>(Q7 (cond (decide (0≤o1)) (Nat.ble o1.toNat a0.length) false)
   (Q7 (cond (decide (0≤o1)) (Nat.ble o1.toNat a0.length) false)
   (Option.bind (cond (o1==0)
     (some true)
     (cond (decide (6 < o1))
     (some true)
     (cond (decide (1 < o1))
     (Option.bind (J0 (a0.take o1.toNat) 0) fun (x8:UInt8) =>
   some ((x8.toNat:Int)==48))
     (some false)))) (fun (v4:Bool)=>cond v4
     (some (0,(a0.drop o1.toNat),true))
     (Q7 ((cond (Nat.ble (a0.take o1.toNat).length 18) (Lib.atoi (a0.take o1.toNat)).isSome false))
   (some ((Q1n (a0.take o1.toNat)),(a0.drop o1.toNat),a1)))))))=some r) ?_ ?_
 refine Qv h0 (fun o2 hl1 h0=>?_)
 refine KZ (GE a0) (fun s1=>⟨[(0,.v (.one (.ptr 0 0))),(3,.v (.one (Qqp s1)))],WD a0 a1 a2 a3 a4,[],3,73,[]⟩) 0 o2 (J2 (Qpw Z) (hA Z) Qqa Z (Ca hv0 (Qq9 Z)) Z Z Z (Qqz Z Z (Qqz Z Z (Qqy Z Qqx))) Z Z) hl1 (fun s1 n1 oo1 h1 ho1=>?_)
 unfold GE at h1
 refine Q4<|Q4 ?_
 refine Jr (fun (v3:Bool)=>⟨[(0,.v (.one (.ptr 0 0))),(3,.v (.one (Qqp s1))),(31,.v (.one (Qqq v3)))],WD a0 a1 a2 a3 a4,[],3,73,[]⟩) (fun (v3:Bool)=>(cond v3
     (some (.next (Qm (s1+1))))
     (some (.done s1)))=some oo1) ?_ ?_
 refine Qv h1 (fun w2_ h2 h1=>?_)
 refine Q0<|Qq1 Z Z Z<|Qq1 Z Z Z<|Qq0 Z Z Z (Qe Z)<|Qq0 Z Z Z (Q2 Yx Z)<|Qq0 Z Z Z (Q6 Q0q Z Z Z)<|Qq0 Z Z Z (Q9y Qd0 Z)<|Qq0 Z Z Z (Qb Z Z Z)<|Qq1 Z Z Z ?_
 refine J1 (d:=14) (c:=(decide (s1 < (a0.length:Int)))) Z (fun c4=>?_) (fun c4=>?_)
 replace h2:=QF c4 h2
 refine Qq1 Z Z Z<|Qq0 Z Z Z (Qe Z)<|Qq0 Z Z Z (Q2 Yx Z)<|Qq0 Z Z Z (Q6 Q0q Z Z Z)<|Qq1 Z Z Z ?_
 refine Qv h2 (fun x5 hx5 h2=>?_)
 refine Qq0 Z Z Z (Q9z Qd0 Z Z hx5)<|Qq0 Z Z Z (Qb Z Z Z)<|Qq0 Z Z Z (Qn Z Z)<|Qq1 Z Z Z ?_
 refine J1 (d:=23) (c:=(decide (48≤(x5.toNat:Int)))) Z (fun c6=>?_) (fun c6=>?_)
 replace h2:=QF c6 h2
 refine Qq1 Z Z Z<|Qq0 Z Z Z (Qe Z)<|Qq0 Z Z Z (Q2 Yx Z)<|Qq0 Z Z Z (Q6 Q0q Z Z Z)<|Qq1 Z Z Z ?_
 refine Qv h2 (fun x7 hx7 h2=>?_)
 refine Qq0 Z Z Z (Q9z Qd0 Z Z hx7)<|Qq0 Z Z Z (Qb Z Z Z)<|Qq0 Z Z Z (Qn Z Z)<|Q3 ?_
 have e:=Qpy h2;subst e
 exact Qj (decide ((x7.toNat:Int)≤57)) (J2 (Qpw Z) (hA Z) Qqa Z (Ca hv0 (Qq9 Z)) Z Z Z (Qqz Z Z (Qqz Z Z (Qqy Z Qqx))) Z Z) h1
 replace h2:=QG c6 h2
 refine Q8 Z Z<|Q8 Z Z<|Q8 Z Z<|Q8 Z Z<|Q8 Z Z<|Q8 Z Z<|Q8 Z Z<|Qq0 Z Z Z (Qz Z Z)<|Q3 ?_
 have e:=Qpy h2;subst e
 exact Qj false (J2 (Qpw Z) (hA Z) Qqa Z (Ca hv0 (Qq9 Z)) Z Z Z (Qqz Z Z (Qqz Z Z (Qqy Z Qqx))) Z Z) h1
 replace h2:=QG c4 h2
 refine Q8 Z Z<|Q8 Z Z<|Q8 Z Z<|Q8 Z Z<|Q8 Z Z<|Q8 Z Z<|Q8 Z Z<|Qq0 Z Z Z (Qz Z Z)<|Qq1 Z Z Z<|Q8 Z Z<|Q8 Z Z<|Q8 Z Z<|Q8 Z Z<|Q8 Z Z ?_
 refine Q8 Z Z<|Q8 Z Z<|Qq0 Z Z Z (Qz Z Z)<|Q3 ?_
 have e:=Qpy h2;subst e
 exact Qj false (J2 (Qpw Z) (hA Z) Qqa Z (Ca hv0 (Qq9 Z)) Z Z Z (Qqz Z Z (Qqz Z Z (Qqy Z Qqx))) Z Z) h1
 intro v3 h1
 refine Q5 ?_
 refine Qy (b:=v3) Z (fun c8=>?_) (fun c8=>?_)
 replace h1:=QF c8 h1
 refine QY<|Q5<|QH<|Q0<|Qq1 Z Z Z<|Qq0 Z Z Z (Qb Z Z Z)<|Qq2 Z Z Z<|Q3<|Ji ?_
 have e:=Qpy h1;subst e
 refine KX (Qm (s1+1)) (J2 (Qpw Z) (hA Z) Qqa Z (Ca hv0 (Qq9 Z)) Z Z Z (Qqz Z Z (Qqz Z Z (Qqy Z Qqx))) Z Z) ho1
 replace h1:=QG c8 h1
 refine Gj<|JP<|JP ?_
 have e:=Qpy h1;subst e
 have e_:_=_:=ho1
 subst e_
 exact KY s1 (J2 (Qpw Z) (hA Z) Qqa Z (Ca hv0 (Qq9 Z)) Z Z Z (Qqz Z Z (Qqz Z Z (Qqy Z Qqx))) Z Z) h0
 intro o1 h0
 refine Z6<|Q5<|Q4<|Q0<|Qq1 Z Z Z<|Qq0 Z Z Z (Qe Z)<|Qq0 Z Z Z (Q2 Yx Z)<|Qq0 Z Z Z (Q6 Q0q Z Z Z)<|Qq1 Z Z Z ?_
 refine UA h0 (fun g9 h0=>?_)
 refine Qq0 Z Z Z (Qku Qd0 Z Z g9)<|Qq2 Z Z Z<|Q3<|Q5<|Q4<|Q0<|Qq1 Z Z Z<|Qq1 Z Z Z<|Qq0 Z Z Z (Qe Z)<|Qq0 Z Z Z (Q2 Yx Z)<|Qq0 Z Z Z (Q6 Q0q Z Z Z)<|Qq1 Z Z Z ?_
 refine UA h0 (fun g10 h0=>?_)
 refine Qq0 Z Z Z (Qcl Qd0 Z Z g10)<|Qq0 Z Z Z (Qe Z)<|Qq0 Z Z Z (Q2 Yx Z)<|QR Z Z (Qi Q0q Z Z Z Z (Qq9 Z) Z)<|Q3<|Q5<|Q4<|Q4 ?_
 refine Jr (fun (v11:Bool)=>⟨[(0,.v (.one (.ptr 0 0))),(4,.v (.one (ZT (a0.take o1.toNat)))),(63,.v (.one (Qqq v11)))],m177f3_h1 a0 o1 a1 a2 a3 a4,[],3,73,[]⟩) (fun (v11:Bool)=>(cond v11
     (some (0,(a0.drop o1.toNat),true))
     (Q7 ((cond (Nat.ble (a0.take o1.toNat).length 18) (Lib.atoi (a0.take o1.toNat)).isSome false))
   (some ((Q1n (a0.take o1.toNat)),(a0.drop o1.toNat),a1))))=some r) ?_ ?_
 refine Qv h0 (fun w1_ h1 h0=>?_)
 refine Q0<|Qq1 Z Z Z<|Qq0 Z Z Z (Qb Z Z Z)<|Qq1 Z Z Z ?_
 refine J1 (d:=51) (c:=(o1==0)) Z (fun c12=>?_) (fun c12=>?_)
 replace h1:=QF c12 h1
 refine Q8 Z Z<|Q8 Z Z<|Qq0 Z Z Z (Qn Z Z)<|Qq1 Z Z Z<|Q8 Z Z<|Q8 Z Z<|Q8 Z Z<|Q8 Z Z<|Q8 Z Z<|Q8 Z Z<|Q8 Z Z<|Qq0 Z Z Z (Qn Z Z)<|Q3 ?_
 have e:=Qpy h1;subst e
 exact Qj true (J2 (Qpw Z) (hA Z) Qqa Z (Ca hv0 (Qq9 Z)) Z Z Z (Qqz Z Z (Qqz Z Z (Qqy Z Qqx))) Z Z) h0
 replace h1:=QG c12 h1
 refine Qq1 Z Z Z<|Qq0 Z Z Z (Qb Z Z Z)<|Qq0 Z Z Z (Qz Z Z)<|Qq1 Z Z Z ?_
 refine J1 (d:=55) (c:=(decide (6 < o1))) Z (fun c13=>?_) (fun c13=>?_)
 replace h1:=QF c13 h1
 refine Q8 Z Z<|Q8 Z Z<|Q8 Z Z<|Q8 Z Z<|Q8 Z Z<|Q8 Z Z<|Q8 Z Z<|Qq0 Z Z Z (Qn Z Z)<|Q3 ?_
 have e:=Qpy h1;subst e
 exact Qj true (J2 (Qpw Z) (hA Z) Qqa Z (Ca hv0 (Qq9 Z)) Z Z Z (Qqz Z Z (Qqz Z Z (Qqy Z Qqx))) Z Z) h0
 replace h1:=QG c13 h1
 refine Qq1 Z Z Z<|Qq0 Z Z Z (Qb Z Z Z)<|Qq1 Z Z Z ?_
 refine J1 (d:=58) (c:=(decide (1 < o1))) Z (fun c14=>?_) (fun c14=>?_)
 replace h1:=QF c14 h1
 refine Qq1 Z Z Z ?_
 refine Qv h1 (fun x15 hx15 h1=>?_)
 refine Qq0 Z Z Z (Q9z Qd0 Z Z hx15)<|Qq0 Z Z Z (Qb Z Z Z)<|Qq0 Z Z Z (Qn Z Z)<|Qq0 Z Z Z (Qz Z Z)<|Q3 ?_
 have e:=Qpy h1;subst e
 exact Qj ((x15.toNat:Int)==48) (J2 (Qpw Z) (hA Z) Qqa Z (Ca hv0 (Qq9 Z)) Z Z Z (Qqz Z Z (Qqz Z Z (Qqy Z Qqx))) Z Z) h0
 replace h1:=QG c14 h1
 refine Q8 Z Z<|Q8 Z Z<|Q8 Z Z<|Qq0 Z Z Z (Qz Z Z)<|Qq0 Z Z Z (Qz Z Z)<|Q3 ?_
 have e:=Qpy h1;subst e
 exact Qj false (J2 (Qpw Z) (hA Z) Qqa Z (Ca hv0 (Qq9 Z)) Z Z Z (Qqz Z Z (Qqz Z Z (Qqy Z Qqx))) Z Z) h0
 intro v11 h0
 refine Q5 ?_
 refine Qy (b:=v11) Z (fun c16=>?_) (fun c16=>?_)
 replace h0:=QF c16 h0
 refine Q4<|Q0<|Qq1 Z Z Z<|Qq0 Z Z Z (Qe Z)<|Qq0 Z Z Z (Q2 Wj Z)<|QR Z Z (Qi Qch Z Z Z Z (Qq9 Z) Z)<|Q3<|Q5<|Q4<|Q0<|Qq2 Z Z Z<|Q3<|Q5<|QU ?_
 have e:=Qpy h0;subst e
 exact hQ0 _ _ _ (.inr Z) Z (J2 (Qpw Z) (hA Z) Qqa Z (Ca hv0 (Qq9 Z)) Z Z Z (Qqz Z Z (Qqz Z Z (Qqy Z Qqx))) Z Z)
 replace h0:=QG c16 h0
 refine QY<|Q5<|Q4<|Q0<|Qq1 Z Z Z ?_
 refine UA h0 (fun g17 h0=>?_)
 refine Qk Z Z (Qq9 Z) (Ya (atoi_fun (a0.take o1.toNat) g17) Z (.cons (.one (.d _)) .nil)) ?_
 refine Qq1 Z Z Z<|Qq0 Z Z Z (J8 Z Z)<|Qq0 Z Z Z (J8 Z Z)<|Qq2 Z Z Z<|Qq2 Z Z Z<|Q3<|Q5<|Q4<|Q0<|Qq1 Z Z Z<|Qq2 Z Z Z<|Q3<|Q5<|QU ?_
 have e:=Qpy h0;subst e
 exact hQ0 _ _ _ (.inr Z) Z (J2 (Qpw Z) (hA Z) Qqa Z (Ca hv0 (Qq9 Z)) Z Z Z (Qqz Z Z (Qqz Z Z (Qqy Z Qqx))) Z Z)
def Q8q (a0:Int) (a1:Int) (a2:Qt):Option Qt :=
 Option.bind (cond (!(Dn a2 a0))
   (some true)
   (some (decide ((YM a2 a0) < a1)))) (fun (v1:Bool)=>cond v1
   (some (Wf a2 a0 a1))
   (some a2))
theorem m206f5_ok (a0:Int) (a1:Int) (a2:Qt) (r:Qt) (h0:Q8q a0 a1 a2=some r):CallM Tryz.prog 206 [.one (.mp 0),.one (Qqp a0),.one (Qqp a1)] ⟨[(0,.mp (Jz a2.1) a2.2)],[],1⟩ (Qh []) ⟨[(0,.mp (Jz r.1) r.2)],[],1⟩:=by
 unfold Q8q at h0
 refine Qp ⟨[],[(0,.mp (Jz r.1) r.2)],[],1,24,[]⟩ Z Z en_206 (Qq9 Z) Z .nil (fun w0 M V0 Q hv0 hQ0=>?_)
 simp only [J5]
 refine Q4<|Q0<|Qq1 Z Z Z<|Qq1 Z Z Z<|Qq0 Z Z Z (RO.lookupT Qd6 Z Z Z)<|Qq1 Z Z Z<|Qq0 Z Z Z (J8 Z Z)<|Qq0 Z Z Z (J8 Z Z)<|Qq2 Z Z Z<|Qq2 Z Z Z<|Q3<|Q5<|Q4 ?_
 refine Jr (fun (v1:Bool)=>⟨[(0,.v (.one (.mp 0))),(1,.v (.one (Qqp a0))),(2,.v (.one (Qqp a1))),(20,.v (.one (Qqq v1)))],[(0,.mp (Jz a2.1) a2.2)],[],1,24,[]⟩) (fun (v1:Bool)=>(cond v1
     (some (Wf a2 a0 a1))
     (some a2))=some r) ?_ ?_
 refine Qv h0 (fun w1_ h1 h0=>?_)
 refine Q0<|Qq1 Z Z Z<|Qq0 Z Z Z (Gt Z)<|Qq1 Z Z Z ?_
 refine J1 (d:=16) (c:=(!(Dn a2 a0))) Z (fun c2=>?_) (fun c2=>?_)
 replace h1:=QF c2 h1
 refine Q8 Z Z<|Q8 Z Z<|Q8 Z Z<|Qq0 Z Z Z (Qn Z Z)<|Q3 ?_
 have e:=Qpy h1;subst e
 exact Qj true (J2 (Qpw Z) (hA Z) Qqa Z (Ca hv0 (Qq9 Z)) Z Z Z (Qqy Z Qqx) Z Z) h0
 replace h1:=QG c2 h1
 refine Qq1 Z Z Z<|Qq1 Z Z Z<|Qq0 Z Z Z (Qb Z Z Z)<|Qq0 Z Z Z (Qz Z Z)<|Q3 ?_
 have e:=Qpy h1;subst e
 exact Qj (decide ((YM a2 a0) < a1)) (J2 (Qpw Z) (hA Z) Qqa Z (Ca hv0 (Qq9 Z)) Z Z Z (Qqy Z Qqx) Z Z) h0
 intro v1 h0
 refine Q5 ?_
 refine Qy (b:=v1) Z (fun c3=>?_) (fun c3=>?_)
 replace h0:=QF c3 h0
 refine Q0<|Qq1 Z Z Z<|Qq1 Z Z Z<|Qq1 Z Z Z<|QR Z Z (OpOK.mapSetI Qd6 Z Z Z Z Z)<|Q3 ?_
 have e:=Qpy h0;subst e
 exact hQ0 _ _ _ (.inl Z) Z (J2 Qps (hA Z) Qqa Z (Ca hv0 (Qq9 Z)) Z Z Z (Qqy Z Qqx) Z Z)
 replace h0:=QG c3 h0
 refine QY ?_
 have e:=Qpy h0;subst e
 exact hQ0 _ _ _ (.inl Z) Z (J2 Qps (hA Z) Qqa Z (Ca hv0 (Qq9 Z)) Z Z Z (Qqy Z Qqx) Z Z)
def Ku (a0:Lvl) (a1:Int) (s1:Int×Qt):Option (LO (Int×Qt) Qt) :=
 cond (decide (s1.1 < (a0.vs.length:Int)))
   (Option.bind (J0 a0.vs s1.1) fun (x3:Qrf) =>
 Option.bind (Q8q x3.1 (Qm (x3.2+a1)) s1.2) fun (x4:Qt) =>
 some (.next ((Qm (s1.1+1)),x4)))
   (some (.done s1.2))
def Xd (a0:Lvl) (a1:Int) (a2:Int) (a3:Qt):Option Qt :=
 Option.bind (Q9 (Ku a0 a1) Qd (0,a3)) (fun (o1:Qt)=>some o1)
theorem m180f4_ok (a0:Lvl) (a1:Int) (a2:Int) (a3:Qt) (r:Qt) (h0:Xd a0 a1 a2 a3=some r):CallM Tryz.prog 180 [.one (.ptr 0 0),.agg (Qqt a0),.one (Qqp a1)] ⟨[(0,.cells 212 [.mp 1,Qqp a2]),(1,.mp (Jz a3.1) a3.2)],[],2⟩ (Qh []) ⟨[(0,.cells 212 [.mp 1,Qqp (max a2 (Qm (a0.c+a1)))]),(1,.mp (Jz r.1) r.2)],[],3⟩:=by
 unfold Xd at h0
 refine Qp ⟨[],[(0,.cells 212 [.mp 1,Qqp (max a2 (Qm (a0.c+a1)))]),(1,.mp (Jz r.1) r.2)],[],3,39,[]⟩ Z Z en_180 (Qq9 Z) Z .nil (fun w0 M V0 Q hv0 hQ0=>?_)
 simp only [J5]
 refine Q4<|Q0<|Qk Z Z (Qq9 Z) (Y2 Z)<|Q3<|Q5<|Q4 ?_
 refine YG [12] [] mixed (by kernel_rfl) (by kernel_rfl) (by kernel_rfl) ?_
 refine RunA.rd Z Z Z (Qa (YI Z)) Z<|RunA.rd Z Z Z (Qa (YI Z)) Z<|RunA.rd Z Z Z (Qa (Qe Z)) Z<|RunA.rd Z Z Z (Qa (Q2 Q44 Z)) Z<|RunA.rd Z Z Z (Qa (Q6 Y1 Z Z Z)) Z<|RunA.rd Z Z Z (Qa (Q2 Q2i Z)) Z<|RunA.rd Z Z Z (Qa (Q6 Y1 Z Z Z)) Z<|RunA.rd Z Z Z (Qa (YI Z)) Z<|RunA.rd Z Z Z (Qa (Qb Z Z Z)) Z<|RunA.rd Z Z Z (Qa (WP Z Z)) Z<|RunA.rd Z Z Z (Qa (Qe Z)) Z<|RunA.rd Z Z Z (Qa (Q2 Q44 Z)) Z<|RunA.eff Z Z Z (Qi Y1 Z Z Z Z (Qq9 Z) Z) Z ?_
 refine RunA.nil ⟨?ex,_,_,Z,?_⟩
 case ex=>exact trivial
 refine Xq (st':=⟨[(0,.v (.one (.ptr 0 0))),(2,.v (.one (Qqp a1))),(4,.v (.one (.ptr 2 0)))],[(0,.cells 212 [.mp 1,Qqp (max a2 (Qm (a0.c+a1)))]),(1,.mp (Jz a3.1) a3.2),(2,.cells 82 (Qqt a0))],[],3,39,[]⟩) (J2 (Qpw Z) (hA Z) Qqa Z (Ca hv0 (Qq9 Z)) Z Z Z (Qqz Z Z (Qqy Z (Qr0 Z))) Z Z)<|Q5<|Q4<|Q0<|Qq0 Z Z Z (Q2 Do Z)<|Qq0 Z Z Z (Q6 Qcg Z Z Z)<|Qq0 Z Z Z (JG (α:=Qrf) UU Z (.d _))<|Qq1 Z Z Z<|Q3<|Q5<|QH ?_
 refine G0 0 (fun (o1:Qt)=>⟨[],[(0,.cells 212 [.mp 1,Qqp (max a2 (Qm (a0.c+a1)))]),(1,.mp (Jz o1.1) o1.2),(2,.cells 82 (Qqt a0))],[],3,39,[]⟩) (fun (o1:Qt)=>(some o1)=some r) ?_ ?_
 refine Qv h0 (fun o2 hl1 h0=>?_)
 refine KZ (Ku a0 a1) (fun s1=>⟨[(0,.v (.one (.ptr 0 0))),(2,.v (.one (Qqp a1))),(21,.v (.one (Qqn a0.vs))),(22,.v (.one (Qqp (a0.vs.length:Int)))),(23,.v (.one (Qqp s1.1)))],[(0,.cells 212 [.mp 1,Qqp (max a2 (Qm (a0.c+a1)))]),(1,.mp (Jz s1.2.1) s1.2.2),(2,.cells 82 (Qqt a0))],[],3,39,[]⟩) (0,a3) o2 (J2 (Qpw Z) (hA Z) Qqa Z (Ca hv0 (Qq9 Z)) Z Z Z (Qqz Z Z (Qqy Z (Qr0 Z))) Z Z) hl1 (fun s1 n1 oo1 h1 ho1=>?_)
 unfold Ku at h1
 refine Q4<|Q0<|Qq0 Z Z Z (Qb Z Z Z)<|Q3<|Q5<|Q4 ?_
 refine Qy (b:=(decide (s1.1 < (a0.vs.length:Int)))) Z (fun c3=>?_) (fun c3=>?_)
 replace h1:=QF c3 h1
 refine QY<|Q5<|Q4<|QH<|Q4<|Q0 ?_
 refine Qv h1 (fun x4 hx4 h1=>?_)
 refine Qq0 Z Z Z (GZ (α:=Qrf) UU Z (.d _) Z hx4)<|Qq0 Z Z Z (Kn (x4:Qrf) Q50 Z)<|Qk Z Z (Qq9 Z) (QS Qeg Z)<|QR Z Z (Zt (x4:Qrf) Q50 Z Z Z Z Z)<|Q3<|Q5 ?_
 refine YG [10] [] mixed (by kernel_rfl) (by kernel_rfl) (by kernel_rfl) ?_
 refine RunA.rd Z Z Z (Qa (YI Z)) Z<|RunA.rd Z Z Z (Qa (Qe Z)) Z<|RunA.rd Z Z Z (Qa (Q2 Q45 Z)) Z<|RunA.rd Z Z Z (Qa (Q6 Qeb Z Z Z)) Z<|RunA.rd Z Z Z (Qa (Q2 fo_142_0 Z)) Z<|RunA.rd Z Z Z (Qa (Q6 Y1 Z Z Z)) Z<|RunA.rd Z Z Z (Qa (Q2 Q46 Z)) Z<|RunA.rd Z Z Z (Qa (Q6 Y1 Z Z Z)) Z<|RunA.rd Z Z Z (Qa (YI Z)) Z<|RunA.rd Z Z Z (Qa (Qb Z Z Z)) Z ?_
 refine Qv h1 (fun x5 hx5 h1=>?_)
 refine RunA.eff Z Z Z (Qo (hp1':=[(1,.mp (Jz x5.1) x5.2)]) (tk1':=[]) (hpF:=[(0,.cells 212 [.mp 1,Qqp (max a2 (Qm (a0.c+a1)))]),(2,.cells 82 (Qqt a0)),(3,.cells 142 (Qqt x4))]) (tkF:=[]) (res2:=Qh []) (nx2:=4) [1] Z Z (m206f5_ok x4.1 (Qm (x4.2+a1)) s1.2 x5 hx5) Z Z (Qq4 Z Qq3) Z Z (Qql Z Qqj) Qqe (hA Z) Qqa Z Z Z Z Z (Qqy Z Qqx) Z Z Z Z) Z ?_
 refine RunA.nil ⟨?ex,_,_,Z,?_⟩
 case ex=>exact trivial
 refine Xq (st':=⟨[(0,.v (.one (.ptr 0 0))),(2,.v (.one (Qqp a1))),(21,.v (.one (Qqn a0.vs))),(22,.v (.one (Qqp (a0.vs.length:Int)))),(23,.v (.one (Qqp s1.1)))],[(0,.cells 212 [.mp 1,Qqp (max a2 (Qm (a0.c+a1)))]),(1,.mp (Jz x5.1) x5.2),(2,.cells 82 (Qqt a0)),(3,.cells 142 (Qqt x4))],[],4,39,[]⟩) (J2 (Qpw Z) (hA Z) Qqa Z (Ca hv0 (Qq9 Z)) Z Z Z (Qqz Z Z (Qqy Z (Qr0 Z))) Z Z)<|Ji<|Q5<|Q0<|Qq0 Z Z Z (Qb Z Z Z)<|Qq1 Z Z Z<|Q3 ?_
 have e:=Qpy h1;subst e
 refine KX ((Qm (s1.1+1)),x5) (J2 (Qpw Z) (hA Z) Qqa Z (Ca hv0 (Qq9 Z)) Z Z Z (Qqz Z Z (Qqy Z (Qr0 Z))) Z Z) ho1
 replace h1:=QG c3 h1
 refine Gj<|JP<|JP ?_
 have e:=Qpy h1;subst e
 have e_:_=_:=ho1
 subst e_
 exact KY s1.2 (J2 Qps (hA Z) Qqa Z (Ca hv0 (Qq9 Z)) Z Z Z (Qqz Z Z (Qqy Z (Qr0 Z))) Z Z) h0
 intro o1 h0
 refine Z6 ?_
 have e:=Qpy h0;subst e
 exact hQ0 _ _ _ (.inl Z) Z (J2 Qps (hA Z) Qqa Z (Ca hv0 (Qq9 Z)) Z Z Z (Qqz Z Z (Qqy Z Qqx)) Z Z)
abbrev Q6k (p0_:(Int×Qrl×Bool)) (p1_:Int) (p2_:Int) (p3_:Qt):List (Nat×HB) :=
 [(0,.cells 188 [ZT p0_.2.1,Qqq p0_.2.2,Qqp p1_,.ptr 1 0]),(1,.cells 212 [.mp 2,Qqp p2_]),(2,.mp (Jz p3_.1) p3_.2),(3,.cells 82 [Qqp 0,Qqo])]
abbrev m152f2_h1 (p0_:Int×Qrl×Bool) (p1_:Int) (p2_:Int) (p3_:Qt):List (Nat×HB) :=
 [(0,.cells 188 [ZT p0_.2.1,Qqq p0_.2.2,Qqp p1_,.ptr 1 0]),(1,.cells 212 [.mp 2,Qqp p2_]),(2,.mp (Jz p3_.1) p3_.2),(3,.cells 82 [Qqp 0,Qqo])]
abbrev Q6j (p0_:Int×Qrl×Bool) (p1_:Int) (p2_:Int) (p3_:Qt) (p4_:Int×(List Qrf)):List (Nat×HB) :=
 [(0,.cells 188 [ZT p0_.2.1,Qqq p0_.2.2,Qqp p1_,.ptr 1 0]),(1,.cells 212 [.mp 2,Qqp p2_]),(2,.mp (Jz p3_.1) p3_.2),(3,.cells 82 [Qqp 0,Qqo]),(4,.cells 82 [Qqp 0,Qqn p4_.2])]
abbrev m152f2_h3 (p0_:Int×Qrl×Bool) (p1_:Int) (p2_:Int) (p3_:Qt):List (Nat×HB) :=
 [(0,.cells 188 [ZT p0_.2.1,Qqq p0_.2.2,Qqp p1_,.ptr 1 0]),(1,.cells 212 [.mp 2,Qqp p2_]),(2,.mp (Jz p3_.1) p3_.2),(3,.cells 82 [Qqp 0,Qqo]),(4,.cells 82 [Qqp 0,Qqo])]
abbrev Q6i (p0_:(Int×Qrl×Bool)) (p1_:Int) (p2_:Int) (p3_:Qt) (p4_:Int×Int):List (Nat×HB) :=
 [(0,.cells 188 [ZT p0_.2.1,Qqq p0_.2.2,Qqp p1_,.ptr 1 0]),(1,.cells 212 [.mp 2,Qqp p2_]),(2,.mp (Jz p3_.1) p3_.2),(3,.cells 82 [Qqp 0,Qqo]),(4,.cells 82 [Qqp p4_.2,Qqo])]
abbrev Q6h (p0_:Int×Int×(List Qrf)×Qrl×Bool×Int×(List Qrf)) (p1_:Int):HB :=
 .cells 188 [ZT p0_.2.2.2.1,Qqq p0_.2.2.2.2.1,Qqp p1_,.ptr 1 0]
abbrev m152f2_h6 (p0_:Int×Int×(List Qrf)×Qrl×Bool×Int×(List Qrf)) (p1_:Int):List (Nat×HB) :=
 [(0,Q6h p0_ p1_),(3,.cells 82 [Qqp p0_.2.1,Qqn p0_.2.2.1]),(4,.cells 82 [Qqp p0_.2.2.2.2.2.1,Qqn p0_.2.2.2.2.2.2])]
abbrev m152f2_h7 (p0_:Qrl) (p1_:Bool) (p2_:Int) (p3_:Int) (p4_:Qt):List (Nat×HB) :=
 [(0,.cells 188 [ZT p0_,Qqq p1_,Qqp p2_,.ptr 1 0]),(1,.cells 212 [.mp 2,Qqp p3_]),(2,.mp (Jz p4_.1) p4_.2)]
abbrev Q6g (p0_:(Qrl×Bool×Int×Int×Qt)):List (Nat×HB) :=
 [(0,.cells 188 [ZT p0_.1,Qqq p0_.2.1,Qqp p0_.2.2.1,.ptr 1 0]),(1,.cells 212 [.mp 2,Qqp p0_.2.2.2.1]),(2,.mp (Jz p0_.2.2.2.2.1) p0_.2.2.2.2.2)]
def W4 (a0:Qrl) (a1:Bool) (a2:Int) (a3:Int) (a4:Qt):Option ((Qrl×Bool×Int×Int×Qt)) :=
 Option.bind (Yk ([117]:List UInt8) a0 a1 a2 a3 a4) fun (x1:(Qrl)) =>
 Option.bind (cond (Lib.hasPrefix a0 ([117]:List UInt8))
   (some (true,x1))
   (Option.bind (Yk ([63]:List UInt8) x1 a1 a2 a3 a4) fun (x4:(Qrl)) =>
 some ((Lib.hasPrefix x1 ([63]:List UInt8)),x4))) (fun (v2:Bool×Qrl)=>Option.bind (cond v2.1
   (Option.bind (YP v2.2 a1 a2 a3 a4) fun (x5:(Int×Qrl×Bool)) =>
 Option.bind (cond (!(Lib.hasPrefix a0 ([117]:List UInt8)))
   (some (Qm ((-1) - x5.1)))
   (some x5.1)) (fun (v6:Int)=>Option.bind (JI x5.2.1 x5.2.2 a2 a3 a4) fun (x7:Unit) =>
 Option.bind (Yk ([43]:List UInt8) (x5.2.1.dropWhile (·==32)) x5.2.2 a2 a3 a4) fun (x8:(Qrl)) =>
 Option.bind (cond (Lib.hasPrefix (x5.2.1.dropWhile (·==32)) ([43]:List UInt8))
   (Option.bind (JI x8 x5.2.2 a2 a3 a4) fun (x11:Unit) =>
 Option.bind (YP (x8.dropWhile (·==32)) x5.2.2 a2 a3 a4) fun (x12:(Int×Qrl×Bool)) =>
 some (x12.1,x12.2.1,x12.2.2))
   (some (0,x8,x5.2.2))) (fun (v9:Int×Qrl×Bool)=>Option.bind (Option.bind (cond (decide (v6 < (-65536)))
   (some true)
   (cond (decide (7 < v6))
   (some true)
   (some (decide (v9.1 < 0))))) (fun (v12:Bool)=>cond v12
   (some (2,([]:List Qrf)))
   (cond (decide (100 < v9.1))
   (some (15,([]:List Qrf)))
   (some (0,[(v6,v9.1)]))))) (fun (y10:Int×(List Qrf))=>some (y10.1,0,y10.2,v9.2.1,v9.2.2,0,y10.2)))))
   (Option.bind (YP v2.2 a1 a2 a3 a4) fun (x21:(Int×Qrl×Bool)) =>
 Option.bind (cond (decide (x21.1 < 0))
   (some (2,0))
   (cond (decide (100 < x21.1))
   (some (15,0))
   (some (0,x21.1)))) (fun (y22:Int×Int)=>some (y22.1,y22.2,([]:List Qrf),x21.2.1,x21.2.2,y22.2,([]:List Qrf))))) (fun (v3:Int×Int×(List Qrf)×Qrl×Bool×Int×(List Qrf))=>Option.bind (cond (a2==0)
   (some v3.1)
   (some a2)) (fun (v4:Int)=>Option.bind (Xd (⟨v3.2.1,v3.2.2.1⟩:Lvl) 0 a3 a4) fun (x5:Qt) =>
 some (v3.2.2.2.1,v3.2.2.2.2.1,v4,(max a3 (Qm ((⟨v3.2.1,v3.2.2.1⟩:Lvl).c+0))),x5))))
theorem Q6f (a0:Qrl) (a1:Bool) (a2:Int) (a3:Int) (a4:Qt) (r:(Qrl×Bool×Int×Int×Qt)) (h0:W4 a0 a1 a2 a3 a4=some r):CallM Tryz.prog 152 [.one (.ptr 0 0)] ⟨m152f2_h7 a0 a1 a2 a3 a4,[],3⟩ (Qh []) ⟨Q6g r,[],6⟩:=by
 unfold W4 at h0
 refine Qp ⟨[],Q6g r,[],6,55,[]⟩ Z Z en_152 (Qq9 Z) Z .nil (fun w0 M V0 Q hv0 hQ0=>?_)
 simp only [J5]
 refine Q4<|Q0<|Qk Z Z (Qq9 Z) (QS Qcq Z)<|Q3<|Q5<|Q4<|Q0<|Qq2 Z Z Z<|Q3<|Q5<|Q4<|Q0<|Qq1 Z Z Z ?_
 refine Qv h0 (fun x1 hx1 h0=>?_)
 refine Qk Z Z (Qq9 Z) (Qo (hp1':=[(0,.cells 188 [ZT x1,Qqq a1,Qqp a2,.ptr 1 0]),(1,.cells 212 [.mp 2,Qqp a3]),(2,.mp (Jz a4.1) a4.2)]) (tk1':=[]) (hpF:=[(3,.cells 82 [Qqp 0,Qqo])]) (tkF:=[]) (res2:=Qh [.one (Qqq (Lib.hasPrefix a0 ([117]:List UInt8)))]) (nx2:=4) [0,1,2] Z Z (ZE ([117]:List UInt8) a0 a1 a2 a3 a4 x1 hx1) Z Z (Qq5 Z Z (Qq5 Z Z (Qq4 Z Qq3))) Z Z (Qqk Z (Qqk Z (Qql Z Qqj))) Qqe (hA Z) Qqa Z Z Z Z Z (Qqz Z Z (Qqz Z Z (Qqy Z Qqx))) Z Z Z Z)<|Qq2 Z Z Z<|Q3<|Q5<|Q4<|Q4 ?_
 refine Jr (fun (v2:Bool×Qrl)=>⟨[(0,.v (.one (.ptr 0 0))),(2,.v (.one (.ptr 3 0))),(4,.v (.one (Qqq (Lib.hasPrefix a0 ([117]:List UInt8))))),(13,.v (.one (Qqq v2.1)))],[(0,.cells 188 [ZT v2.2,Qqq a1,Qqp a2,.ptr 1 0]),(1,.cells 212 [.mp 2,Qqp a3]),(2,.mp (Jz a4.1) a4.2),(3,.cells 82 [Qqp 0,Qqo])],[],4,55,[]⟩) (fun (v2:Bool×Qrl)=>(Option.bind (cond v2.1
     (Option.bind (YP v2.2 a1 a2 a3 a4) fun (x5:(Int×Qrl×Bool)) =>
   Option.bind (cond (!(Lib.hasPrefix a0 ([117]:List UInt8)))
     (some (Qm ((-1) - x5.1)))
     (some x5.1)) (fun (v6:Int)=>Option.bind (JI x5.2.1 x5.2.2 a2 a3 a4) fun (x7:Unit) =>
   Option.bind (Yk ([43]:List UInt8) (x5.2.1.dropWhile (·==32)) x5.2.2 a2 a3 a4) fun (x8:(Qrl)) =>
   Option.bind (cond (Lib.hasPrefix (x5.2.1.dropWhile (·==32)) ([43]:List UInt8))
     (Option.bind (JI x8 x5.2.2 a2 a3 a4) fun (x11:Unit) =>
   Option.bind (YP (x8.dropWhile (·==32)) x5.2.2 a2 a3 a4) fun (x12:(Int×Qrl×Bool)) =>
   some (x12.1,x12.2.1,x12.2.2))
     (some (0,x8,x5.2.2))) (fun (v9:Int×Qrl×Bool)=>Option.bind (Option.bind (cond (decide (v6 < (-65536)))
     (some true)
     (cond (decide (7 < v6))
     (some true)
     (some (decide (v9.1 < 0))))) (fun (v12:Bool)=>cond v12
     (some (2,([]:List Qrf)))
     (cond (decide (100 < v9.1))
     (some (15,([]:List Qrf)))
     (some (0,[(v6,v9.1)]))))) (fun (y10:Int×(List Qrf))=>some (y10.1,0,y10.2,v9.2.1,v9.2.2,0,y10.2)))))
     (Option.bind (YP v2.2 a1 a2 a3 a4) fun (x21:(Int×Qrl×Bool)) =>
   Option.bind (cond (decide (x21.1 < 0))
     (some (2,0))
     (cond (decide (100 < x21.1))
     (some (15,0))
     (some (0,x21.1)))) (fun (y22:Int×Int)=>some (y22.1,y22.2,([]:List Qrf),x21.2.1,x21.2.2,y22.2,([]:List Qrf))))) (fun (v3:Int×Int×(List Qrf)×Qrl×Bool×Int×(List Qrf))=>Option.bind (cond (a2==0)
     (some v3.1)
     (some a2)) (fun (v4:Int)=>Option.bind (Xd (⟨v3.2.1,v3.2.2.1⟩:Lvl) 0 a3 a4) fun (x5:Qt) =>
   some (v3.2.2.2.1,v3.2.2.2.2.1,v4,(max a3 (Qm ((⟨v3.2.1,v3.2.2.1⟩:Lvl).c+0))),x5))))=some r) ?_ ?_
 refine Qv h0 (fun w1_ h1 h0=>?_)
 refine Q0<|Qq1 Z Z Z<|Qq1 Z Z Z ?_
 refine J1 (d:=10) (c:=(Lib.hasPrefix a0 ([117]:List UInt8))) Z (fun c3=>?_) (fun c3=>?_)
 replace h1:=QF c3 h1
 refine Q8 Z Z<|Q8 Z Z<|Qq0 Z Z Z (Qn Z Z)<|Q3 ?_
 have e:=Qpy h1;subst e
 exact Qj (true,x1) (J2 (Qpw Z) (hA Z) Qqa Z (Ca hv0 (Qq9 Z)) Z Z Z (Qqz Z Z (Qqz Z Z (Qqy Z (Qr0 Z)))) Z Z) h0
 replace h1:=QG c3 h1
 refine Qq1 Z Z Z ?_
 refine Qv h1 (fun x4 hx4 h1=>?_)
 refine Qk Z Z (Qq9 Z) (Qo (hp1':=[(0,.cells 188 [ZT x4,Qqq a1,Qqp a2,.ptr 1 0]),(1,.cells 212 [.mp 2,Qqp a3]),(2,.mp (Jz a4.1) a4.2)]) (tk1':=[]) (hpF:=[(3,.cells 82 [Qqp 0,Qqo])]) (tkF:=[]) (res2:=Qh [.one (Qqq (Lib.hasPrefix x1 ([63]:List UInt8)))]) (nx2:=4) [0,1,2] Z Z (ZE ([63]:List UInt8) x1 a1 a2 a3 a4 x4 hx4) Z Z (Qq5 Z Z (Qq5 Z Z (Qq4 Z Qq3))) Z Z (Qqk Z (Qqk Z (Qql Z Qqj))) Qqe (hA Z) Qqa Z Z Z Z Z (Qqz Z Z (Qqz Z Z (Qqy Z Qqx))) Z Z Z Z)<|Qq0 Z Z Z (Qz Z Z)<|Q3 ?_
 have e:=Qpy h1;subst e
 exact Qj ((Lib.hasPrefix x1 ([63]:List UInt8)),x4) (J2 (Qpw Z) (hA Z) Qqa Z (Ca hv0 (Qq9 Z)) Z Z Z (Qqz Z Z (Qqz Z Z (Qqy Z (Qr0 Z)))) Z Z) h0
 intro v2 h0
 refine Q5 ?_
 refine Jr (fun (v5:Int×Int×(List Qrf)×Qrl×Bool×Int×(List Qrf))=>⟨[(0,.v (.one (.ptr 0 0))),(2,.v (.one (.ptr 3 0))),(3,.v (.one (Qqp v5.1)))],[(0,.cells 188 [ZT v5.2.2.2.1,Qqq v5.2.2.2.2.1,Qqp a2,.ptr 1 0]),(1,.cells 212 [.mp 2,Qqp a3]),(2,.mp (Jz a4.1) a4.2),(3,.cells 82 [Qqp v5.2.1,Qqn v5.2.2.1]),(4,.cells 82 [Qqp v5.2.2.2.2.2.1,Qqn v5.2.2.2.2.2.2])],[],5,55,[]⟩) (fun (v5:Int×Int×(List Qrf)×Qrl×Bool×Int×(List Qrf))=>(Option.bind (cond (a2==0)
     (some v5.1)
     (some a2)) (fun (v6:Int)=>Option.bind (Xd (⟨v5.2.1,v5.2.2.1⟩:Lvl) 0 a3 a4) fun (x7:Qt) =>
   some (v5.2.2.2.1,v5.2.2.2.2.1,v6,(max a3 (Qm ((⟨v5.2.1,v5.2.2.1⟩:Lvl).c+0))),x7)))=some r) ?_ ?_
 refine Qv h0 (fun w1_ h1 h0=>?_)
 refine Qy (b:=v2.1) Z (fun c6=>?_) (fun c6=>?_)
 replace h1:=QF c6 h1
 refine Q4<|Q0<|Qq1 Z Z Z ?_
 refine Qv h1 (fun x7 hx7 h1=>?_)
 refine Qk Z Z (Qq9 Z) (Qo (hp1':=[(0,.cells 188 [ZT x7.2.1,Qqq x7.2.2,Qqp a2,.ptr 1 0]),(1,.cells 212 [.mp 2,Qqp a3]),(2,.mp (Jz a4.1) a4.2)]) (tk1':=[]) (hpF:=[(3,.cells 82 [Qqp 0,Qqo])]) (tkF:=[]) (res2:=Qh [.one (Qqp x7.1)]) (nx2:=4) [0,1,2] Z Z (Q02 v2.2 a1 a2 a3 a4 x7 hx7) Z Z (Qq5 Z Z (Qq5 Z Z (Qq4 Z Qq3))) Z Z (Qqk Z (Qqk Z (Qql Z Qqj))) Qqe (hA Z) Qqa Z Z Z Z Z (Qqz Z Z (Qqz Z Z (Qqy Z Qqx))) Z Z Z Z)<|Qq2 Z Z Z<|Q3<|Q5<|Q4<|Q4<|Q0<|Qq1 Z Z Z<|Qq0 Z Z Z (Gt Z)<|Q3<|Q5 ?_
 refine Jr (fun (v8:Int)=>⟨[(0,.v (.one (.ptr 0 0))),(2,.v (.one (.ptr 3 0))),(5,.v (.one (Qqp v8)))],Q6k x7 a2 a3 a4,[],4,55,[]⟩) (fun (v8:Int)=>(Option.bind (JI x7.2.1 x7.2.2 a2 a3 a4) fun (x9:Unit) =>
   Option.bind (Yk ([43]:List UInt8) (x7.2.1.dropWhile (·==32)) x7.2.2 a2 a3 a4) fun (x10:(Qrl)) =>
   Option.bind (cond (Lib.hasPrefix (x7.2.1.dropWhile (·==32)) ([43]:List UInt8))
     (Option.bind (JI x10 x7.2.2 a2 a3 a4) fun (x13:Unit) =>
   Option.bind (YP (x10.dropWhile (·==32)) x7.2.2 a2 a3 a4) fun (x14:(Int×Qrl×Bool)) =>
   some (x14.1,x14.2.1,x14.2.2))
     (some (0,x10,x7.2.2))) (fun (v11:Int×Qrl×Bool)=>Option.bind (Option.bind (cond (decide (v8 < (-65536)))
     (some true)
     (cond (decide (7 < v8))
     (some true)
     (some (decide (v11.1 < 0))))) (fun (v14:Bool)=>cond v14
     (some (2,([]:List Qrf)))
     (cond (decide (100 < v11.1))
     (some (15,([]:List Qrf)))
     (some (0,[(v8,v11.1)]))))) (fun (y12:Int×(List Qrf))=>some (y12.1,0,y12.2,v11.2.1,v11.2.2,0,y12.2))))=some w1_) ?_ ?_
 refine Qv h1 (fun w2_ h2 h1=>?_)
 refine Qy (b:=(!(Lib.hasPrefix a0 ([117]:List UInt8)))) Z (fun c9=>?_) (fun c9=>?_)
 replace h2:=QF c9 h2
 refine Q0<|Qq1 Z Z Z<|Qq0 Z Z Z (Qb Z Z Z)<|Qq2 Z Z Z<|Q3 ?_
 have e:=Qpy h2;subst e
 exact Qj (Qm ((-1) - x7.1)) (J2 (Qpw Z) (hA Z) Qqa Z (Ca hv0 (Qq9 Z)) Z Z Z (Qqz Z Z (Qqz Z Z (Qqy Z (Qr0 Z)))) Z Z) h1
 replace h2:=QG c9 h2
 refine QY ?_
 have e:=Qpy h2;subst e
 exact Qj x7.1 (J2 (Qpw Z) (hA Z) Qqa Z (Ca hv0 (Qq9 Z)) Z Z Z (Qqz Z Z (Qqz Z Z (Qqy Z (Qr0 Z)))) Z Z) h1
 intro v8 h1
 refine Q5<|Q4<|Q0<|Qq2 Z Z Z<|Q3<|Q5<|Q4<|Q0<|Qq1 Z Z Z ?_
 refine Qv h1 (fun x10 hx10 h1=>?_)
 refine Qk Z Z (Qq9 Z) (Qo (hp1':=[(0,.cells 188 [ZT (x7.2.1.dropWhile (·==32)),Qqq x7.2.2,Qqp a2,.ptr 1 0]),(1,.cells 212 [.mp 2,Qqp a3]),(2,.mp (Jz a4.1) a4.2)]) (tk1':=[]) (hpF:=[(3,.cells 82 [Qqp 0,Qqo])]) (tkF:=[]) (res2:=Qh []) (nx2:=4) [0,1,2] Z Z (ZF x7.2.1 x7.2.2 a2 a3 a4 x10 hx10) Z Z (Qq5 Z Z (Qq5 Z Z (Qq4 Z Qq3))) Z Z (Qqk Z (Qqk Z (Qql Z Qqj))) Qqe (hA Z) Qqa Z Z Z Z Z (Qqz Z Z (Qqz Z Z (Qqy Z Qqx))) Z Z Z Z)<|Q3<|Q5<|Q4<|Q4<|Q0<|Qq1 Z Z Z ?_
 refine Qv h1 (fun x11 hx11 h1=>?_)
 refine Qk Z Z (Qq9 Z) (Qo (hp1':=[(0,.cells 188 [ZT x11,Qqq x7.2.2,Qqp a2,.ptr 1 0]),(1,.cells 212 [.mp 2,Qqp a3]),(2,.mp (Jz a4.1) a4.2)]) (tk1':=[]) (hpF:=[(3,.cells 82 [Qqp 0,Qqo])]) (tkF:=[]) (res2:=Qh [.one (Qqq (Lib.hasPrefix (x7.2.1.dropWhile (·==32)) ([43]:List UInt8)))]) (nx2:=4) [0,1,2] Z Z (ZE ([43]:List UInt8) (x7.2.1.dropWhile (·==32)) x7.2.2 a2 a3 a4 x11 hx11) Z Z (Qq5 Z Z (Qq5 Z Z (Qq4 Z Qq3))) Z Z (Qqk Z (Qqk Z (Qql Z Qqj))) Qqe (hA Z) Qqa Z Z Z Z Z (Qqz Z Z (Qqz Z Z (Qqy Z Qqx))) Z Z Z Z)<|Q3<|Q5 ?_
 refine Jr (fun (v12:Int×Qrl×Bool)=>⟨[(0,.v (.one (.ptr 0 0))),(2,.v (.one (.ptr 3 0))),(5,.v (.one (Qqp v8))),(6,.v (.one (Qqp v12.1)))],[(0,.cells 188 [ZT v12.2.1,Qqq v12.2.2,Qqp a2,.ptr 1 0]),(1,.cells 212 [.mp 2,Qqp a3]),(2,.mp (Jz a4.1) a4.2),(3,.cells 82 [Qqp 0,Qqo])],[],4,55,[]⟩) (fun (v12:Int×Qrl×Bool)=>(Option.bind (Option.bind (cond (decide (v8 < (-65536)))
     (some true)
     (cond (decide (7 < v8))
     (some true)
     (some (decide (v12.1 < 0))))) (fun (v15:Bool)=>cond v15
     (some (2,([]:List Qrf)))
     (cond (decide (100 < v12.1))
     (some (15,([]:List Qrf)))
     (some (0,[(v8,v12.1)]))))) (fun (y13:Int×(List Qrf))=>some (y13.1,0,y13.2,v12.2.1,v12.2.2,0,y13.2)))=some w1_) ?_ ?_
 refine Qv h1 (fun w2_ h2 h1=>?_)
 refine Qy (b:=(Lib.hasPrefix (x7.2.1.dropWhile (·==32)) ([43]:List UInt8))) Z (fun c13=>?_) (fun c13=>?_)
 replace h2:=QF c13 h2
 refine Q4<|Q0<|Qq1 Z Z Z ?_
 refine Qv h2 (fun x14 hx14 h2=>?_)
 refine Qk Z Z (Qq9 Z) (Qo (hp1':=[(0,.cells 188 [ZT (x11.dropWhile (·==32)),Qqq x7.2.2,Qqp a2,.ptr 1 0]),(1,.cells 212 [.mp 2,Qqp a3]),(2,.mp (Jz a4.1) a4.2)]) (tk1':=[]) (hpF:=[(3,.cells 82 [Qqp 0,Qqo])]) (tkF:=[]) (res2:=Qh []) (nx2:=4) [0,1,2] Z Z (ZF x11 x7.2.2 a2 a3 a4 x14 hx14) Z Z (Qq5 Z Z (Qq5 Z Z (Qq4 Z Qq3))) Z Z (Qqk Z (Qqk Z (Qql Z Qqj))) Qqe (hA Z) Qqa Z Z Z Z Z (Qqz Z Z (Qqz Z Z (Qqy Z Qqx))) Z Z Z Z)<|Q3<|Q5<|Q0<|Qq1 Z Z Z ?_
 refine Qv h2 (fun x15 hx15 h2=>?_)
 refine Qk Z Z (Qq9 Z) (Qo (hp1':=[(0,.cells 188 [ZT x15.2.1,Qqq x15.2.2,Qqp a2,.ptr 1 0]),(1,.cells 212 [.mp 2,Qqp a3]),(2,.mp (Jz a4.1) a4.2)]) (tk1':=[]) (hpF:=[(3,.cells 82 [Qqp 0,Qqo])]) (tkF:=[]) (res2:=Qh [.one (Qqp x15.1)]) (nx2:=4) [0,1,2] Z Z (Q02 (x11.dropWhile (·==32)) x7.2.2 a2 a3 a4 x15 hx15) Z Z (Qq5 Z Z (Qq5 Z Z (Qq4 Z Qq3))) Z Z (Qqk Z (Qqk Z (Qql Z Qqj))) Qqe (hA Z) Qqa Z Z Z Z Z (Qqz Z Z (Qqz Z Z (Qqy Z Qqx))) Z Z Z Z)<|Qq2 Z Z Z<|Q3 ?_
 have e:=Qpy h2;subst e
 exact Qj (x15.1,x15.2.1,x15.2.2) (J2 (Qpw Z) (hA Z) Qqa Z (Ca hv0 (Qq9 Z)) Z Z Z (Qqz Z Z (Qqz Z Z (Qqy Z (Qr0 Z)))) Z Z) h1
 replace h2:=QG c13 h2
 refine QY ?_
 have e:=Qpy h2;subst e
 exact Qj (0,x11,x7.2.2) (J2 (Qpw Z) (hA Z) Qqa Z (Ca hv0 (Qq9 Z)) Z Z Z (Qqz Z Z (Qqz Z Z (Qqy Z (Qr0 Z)))) Z Z) h1
 intro v12 h1
 refine Q5<|Q0<|Qq1 Z Z Z<|Qq1 Z Z Z ?_
 refine Qv h1 (fun y16 h2 h1=>?_)
 have hc17:CallM Tryz.prog 178 [.one (Qqp v8),.one (Qqp v12.1)] ⟨m152f2_h1 v12 a2 a3 a4,[],4⟩ (Qh [.agg [Qqp 0,Qqn y16.2],.one (Qqp y16.1)]) ⟨Q6j v12 a2 a3 a4 y16,[],5⟩:=by
  refine Qp ⟨[(4,.v (.one (.ptr 4 0))),(5,.v (.one (Qqp y16.1)))],Q6j v12 a2 a3 a4 y16,[],5,27,[]⟩ Z Z en_178 (Qq9 Z) Z (Zs JE Z Z Z Z (Jk Z .nil)) (fun w0 M V0 Q hv2 hQ2=>?_)
  simp only [J5]
  refine Q4<|Q0<|Qk Z Z (Qq9 Z) (QS Qcq Z)<|Qq2 Z Z Z<|Q3<|Q5<|Q4<|QH<|Q4 ?_
  refine Jr (fun (v18:Bool)=>⟨[(0,.v (.one (Qqp v8))),(1,.v (.one (Qqp v12.1))),(4,.v (.one (.ptr 4 0))),(6,.v (.one (Qqq v18)))],m152f2_h3 v12 a2 a3 a4,[],5,27,[]⟩) (fun (v18:Bool)=>(cond v18
      (some (2,([]:List Qrf)))
      (cond (decide (100 < v12.1))
      (some (15,([]:List Qrf)))
      (some (0,[(v8,v12.1)]))))=some y16) ?_ ?_
  refine Qv h2 (fun w3_ h3 h2=>?_)
  refine Q0<|Qq1 Z Z Z<|Qq0 Z Z Z (Qb Z Z Z)<|Qq1 Z Z Z ?_
  refine J1 (d:=9) (c:=(decide (v8 < (-65536)))) Z (fun c19=>?_) (fun c19=>?_)
  replace h3:=QF c19 h3
  refine Q8 Z Z<|Q8 Z Z<|Qq0 Z Z Z (Qn Z Z)<|Qq1 Z Z Z<|Q8 Z Z<|Q8 Z Z<|Qq0 Z Z Z (Qn Z Z)<|Qq2 Z Z Z<|Q3 ?_
  have e:=Qpy h3;subst e
  exact Qj true (J2 (Qpw Z) (hA Z) Qqa Z (Ca hv2 (Qq9 Z)) Z Z Z (Qqz Z Z (Qqz Z Z (Qqy Z (Qr0 Z)))) Z Z) h2
  replace h3:=QG c19 h3
  refine Qq1 Z Z Z<|Qq0 Z Z Z (Qb Z Z Z)<|Qq0 Z Z Z (Qz Z Z)<|Qq1 Z Z Z ?_
  refine J1 (d:=13) (c:=(decide (7 < v8))) Z (fun c20=>?_) (fun c20=>?_)
  replace h3:=QF c20 h3
  refine Q8 Z Z<|Q8 Z Z<|Qq0 Z Z Z (Qn Z Z)<|Qq2 Z Z Z<|Q3 ?_
  have e:=Qpy h3;subst e
  exact Qj true (J2 (Qpw Z) (hA Z) Qqa Z (Ca hv2 (Qq9 Z)) Z Z Z (Qqz Z Z (Qqz Z Z (Qqy Z (Qr0 Z)))) Z Z) h2
  replace h3:=QG c20 h3
  refine Qq1 Z Z Z<|Qq0 Z Z Z (Qb Z Z Z)<|Qq0 Z Z Z (Qz Z Z)<|Qq2 Z Z Z<|Q3 ?_
  have e:=Qpy h3;subst e
  exact Qj (decide (v12.1 < 0)) (J2 (Qpw Z) (hA Z) Qqa Z (Ca hv2 (Qq9 Z)) Z Z Z (Qqz Z Z (Qqz Z Z (Qqy Z (Qr0 Z)))) Z Z) h2
  intro v18 h2
  refine Q5 ?_
  refine Qy (b:=v18) Z (fun c21=>?_) (fun c21=>?_)
  replace h2:=QF c21 h2
  refine Q4<|Q0<|Qq0 Z Z Z (YJ XD Z )<|QR Z Z (Qi JE Z Z Z Z (Qq9 Z) Z)<|Qq2 Z Z Z<|Q3<|Q5<|QU ?_
  have e:=Qpy h2;subst e
  exact hQ2 _ _ _ (.inr Z) Z (J2 (Qpw Z) (hR Z (hR Z (hR Z (hR Z (Qqi Z (.cons (.refl _) (.cons (.sub (.nil _)) .nil)) Qqh))))) Qqa Z (Ca hv2 (Qq9 Z)) Z Z Z (Qqz Z Z (Qqz Z Z (Qqy Z (Qr0 Z)))) Z Z)
  replace h2:=QG c21 h2
  refine Q4<|Q0<|Qq1 Z Z Z<|Qq0 Z Z Z (Qb Z Z Z)<|Qq2 Z Z Z<|Q3<|Q5 ?_
  refine Qy (b:=(decide (100 < v12.1))) Z (fun c22=>?_) (fun c22=>?_)
  replace h2:=QF c22 h2
  refine Q4<|Q0<|Qq0 Z Z Z (YJ XD Z )<|QR Z Z (Qi JE Z Z Z Z (Qq9 Z) Z)<|Qq2 Z Z Z<|Q3<|Q5<|QU ?_
  have e:=Qpy h2;subst e
  exact hQ2 _ _ _ (.inr Z) Z (J2 (Qpw Z) (hR Z (hR Z (hR Z (hR Z (Qqi Z (.cons (.refl _) (.cons (.sub (.nil _)) .nil)) Qqh))))) Qqa Z (Ca hv2 (Qq9 Z)) Z Z Z (Qqz Z Z (Qqz Z Z (Qqy Z (Qr0 Z)))) Z Z)
  replace h2:=QG c22 h2
  refine QY<|Ji<|Q5<|Q4<|Q0<|Qq1 Z Z Z<|Qq1 Z Z Z<|Qq0 Z Z Z (QK Qkg Z Z Z Z)<|Qk Z Z (Qq9 Z) (OpOK.lit1E (α:=Qrf) ((v8,v12.1)) UU Qeg Z Z (Qq9 Z) (Qq9 Z) Z Z (.cons (.d _) (.cons (.d _) .nil)) Z)<|Qq0 Z Z Z (KC XD Z Z Z)<|QR Z Z (Qi JE Z Z Z Z (Qq9 Z) Z)<|Qq2 Z Z Z<|Q3<|Q5 ?_
  refine QU ?_
  have e:=Qpy h2;subst e
  exact hQ2 _ _ _ (.inr Z) Z (J2 (Qpw Z) (hR Z (hR Z (hR Z (hR Z (Qqi Z (.cons (.refl _) (.cons (.sub (.app _ _ _)) .nil)) Qqh))))) Qqa Z (Ca hv2 (Qq9 Z)) Z Z Z (Qqz Z Z (Qqz Z Z (Qqy Z (Qr0 Z)))) Z Z)
 refine Qk Z Z (Qq9 Z) (G2 Z Z Z hc17 Z (hA Z) Qqa)<|Qq1 Z Z Z<|Qq0 Z Z Z (J8 Z Z)<|Qq0 Z Z Z (J8 Z Z)<|QR Z Z (Qi JE Z Z Z Z (Qq9 Z) Z)<|Qq2 Z Z Z<|Q3 ?_
 have e:=Qpy h1;subst e
 exact Qj (y16.1,0,y16.2,v12.2.1,v12.2.2,0,y16.2) (J2 (Qpw Z) (hA Z) Qqa Z (Ca hv0 (Qq9 Z)) Z Z Z (Qqz Z Z (Qqz Z Z (Qqy Z (Qr0 Z)))) Z Z) h0
 replace h1:=QG c6 h1
 refine Q0<|Qq1 Z Z Z ?_
 refine Qv h1 (fun x23 hx23 h1=>?_)
 refine Qk Z Z (Qq9 Z) (Qo (hp1':=[(0,.cells 188 [ZT x23.2.1,Qqq x23.2.2,Qqp a2,.ptr 1 0]),(1,.cells 212 [.mp 2,Qqp a3]),(2,.mp (Jz a4.1) a4.2)]) (tk1':=[]) (hpF:=[(3,.cells 82 [Qqp 0,Qqo])]) (tkF:=[]) (res2:=Qh [.one (Qqp x23.1)]) (nx2:=4) [0,1,2] Z Z (Q02 v2.2 a1 a2 a3 a4 x23 hx23) Z Z (Qq5 Z Z (Qq5 Z Z (Qq4 Z Qq3))) Z Z (Qqk Z (Qqk Z (Qql Z Qqj))) Qqe (hA Z) Qqa Z Z Z Z Z (Qqz Z Z (Qqz Z Z (Qqy Z Qqx))) Z Z Z Z) ?_
 refine Qv h1 (fun y24 h2 h1=>?_)
 have hc25:CallM Tryz.prog 179 [.one (Qqp x23.1)] ⟨Q6k x23 a2 a3 a4,[],4⟩ (Qh [.agg [Qqp y24.2,Qqo],.one (Qqp y24.1)]) ⟨Q6i x23 a2 a3 a4 y24,[],5⟩:=by
  refine Qp ⟨[(2,.v (.one (.ptr 4 0))),(3,.v (.one (Qqp y24.1)))],Q6i x23 a2 a3 a4 y24,[],5,14,[]⟩ Z Z en_179 (Qq9 Z) Z (Zs JE Z Z Z Z (Jk Z .nil)) (fun w0 M V0 Q hv2 hQ2=>?_)
  simp only [J5]
  refine Q4<|Q0<|Qk Z Z (Qq9 Z) (QS Qcq Z)<|Qq2 Z Z Z<|Q3<|Q5<|Q4<|QH<|Q4<|Q0<|Qq1 Z Z Z<|Qq0 Z Z Z (Qb Z Z Z)<|Qq2 Z Z Z<|Q3 ?_
  refine Q5 ?_
  refine Qy (b:=(decide (x23.1 < 0))) Z (fun c26=>?_) (fun c26=>?_)
  replace h2:=QF c26 h2
  refine Q4<|Q0<|Qq0 Z Z Z (YJ XD Z )<|QR Z Z (Qi JE Z Z Z Z (Qq9 Z) Z)<|Qq2 Z Z Z<|Q3<|Q5<|QU ?_
  have e:=Qpy h2;subst e
  exact hQ2 _ _ _ (.inr Z) Z (J2 (Qpw Z) (hA Z) Qqa Z (Ca hv2 (Qq9 Z)) Z Z Z (Qqz Z Z (Qqz Z Z (Qqy Z (Qr0 Z)))) Z Z)
  replace h2:=QG c26 h2
  refine Q4<|Q0<|Qq1 Z Z Z<|Qq0 Z Z Z (Qb Z Z Z)<|Qq2 Z Z Z<|Q3<|Q5 ?_
  refine Qy (b:=(decide (100 < x23.1))) Z (fun c27=>?_) (fun c27=>?_)
  replace h2:=QF c27 h2
  refine Q4<|Q0<|Qq0 Z Z Z (YJ XD Z )<|QR Z Z (Qi JE Z Z Z Z (Qq9 Z) Z)<|Qq2 Z Z Z<|Q3<|Q5<|QU ?_
  have e:=Qpy h2;subst e
  exact hQ2 _ _ _ (.inr Z) Z (J2 (Qpw Z) (hA Z) Qqa Z (Ca hv2 (Qq9 Z)) Z Z Z (Qqz Z Z (Qqz Z Z (Qqy Z (Qr0 Z)))) Z Z)
  replace h2:=QG c27 h2
  refine QY<|Ji<|Q5<|Q4<|Q0<|Qq1 Z Z Z<|Qq0 Z Z Z (KC XD Z Z Z)<|QR Z Z (Qi JE Z Z Z Z (Qq9 Z) Z)<|Qq2 Z Z Z<|Q3<|Q5<|QU ?_
  have e:=Qpy h2;subst e
  exact hQ2 _ _ _ (.inr Z) Z (J2 (Qpw Z) (hA Z) Qqa Z (Ca hv2 (Qq9 Z)) Z Z Z (Qqz Z Z (Qqz Z Z (Qqy Z (Qr0 Z)))) Z Z)
 refine Qk Z Z (Qq9 Z) (G2 Z Z Z hc25 Z (hA Z) Qqa)<|Qq1 Z Z Z<|Qq0 Z Z Z (J8 Z Z)<|Qq0 Z Z Z (J8 Z Z)<|QR Z Z (Qi JE Z Z Z Z (Qq9 Z) Z)<|Qq2 Z Z Z<|Q3 ?_
 have e:=Qpy h1;subst e
 exact Qj (y24.1,y24.2,([]:List Qrf),x23.2.1,x23.2.2,y24.2,([]:List Qrf)) (J2 (Qpw Z) (hR Z (hR Z (hR Z (Qqi Z (.cons (.refl _) (.cons (.sub (.nil _)) .nil)) (Qqi Z (.cons (.refl _) (.cons (.sub (.nil _)) .nil)) Qqh))))) Qqa Z (Ca hv0 (Qq9 Z)) Z Z Z (Qqz Z Z (Qqz Z Z (Qqy Z (Qr0 Z)))) Z Z) h0
 intro v5 h0
 refine Q5<|Q4<|Q4<|Q0<|Qq1 Z Z Z<|Qq0 Z Z Z (Qe Z)<|Qq0 Z Z Z (Q2 Wi Z)<|Qq0 Z Z Z (Q6 GU Z Z Z)<|Qq0 Z Z Z (Qb Z Z Z)<|Q3<|Q5 ?_
 refine Jr (fun (v28:Int)=>⟨[(0,.v (.one (.ptr 0 0))),(2,.v (.one (.ptr 3 0)))],[(0,.cells 188 [ZT v5.2.2.2.1,Qqq v5.2.2.2.2.1,Qqp v28,.ptr 1 0]),(1,.cells 212 [.mp 2,Qqp a3]),(2,.mp (Jz a4.1) a4.2),(3,.cells 82 [Qqp v5.2.1,Qqn v5.2.2.1]),(4,.cells 82 [Qqp v5.2.2.2.2.2.1,Qqn v5.2.2.2.2.2.2])],[],5,55,[]⟩) (fun (v28:Int)=>(Option.bind (Xd (⟨v5.2.1,v5.2.2.1⟩:Lvl) 0 a3 a4) fun (x29:Qt) =>
   some (v5.2.2.2.1,v5.2.2.2.2.1,v28,(max a3 (Qm ((⟨v5.2.1,v5.2.2.1⟩:Lvl).c+0))),x29))=some r) ?_ ?_
 refine Qv h0 (fun w1_ h1 h0=>?_)
 refine Qy (b:=(a2==0)) Z (fun c29=>?_) (fun c29=>?_)
 replace h1:=QF c29 h1
 refine Q0<|Qq1 Z Z Z<|Qq1 Z Z Z<|Qq0 Z Z Z (Qe Z)<|Qq0 Z Z Z (Q2 Wi Z)<|QR Z Z (Qi GU Z Z Z Z (Qq9 Z) Z)<|Q3 ?_
 have e:=Qpy h1;subst e
 exact Qj v5.1 (J2 (Qpw Z) (hA Z) Qqa Z (Ca hv0 (Qq9 Z)) Z Z Z (Qqz Z Z (Qqz Z Z (Qqy Z (Qr0 Z)))) Z Z) h0
 replace h1:=QG c29 h1
 refine QY ?_
 have e:=Qpy h1;subst e
 exact Qj a2 (J2 (Qpw Z) (hA Z) Qqa Z (Ca hv0 (Qq9 Z)) Z Z Z (Qqz Z Z (Qqz Z Z (Qqy Z (Qr0 Z)))) Z Z) h0
 intro v28 h0
 refine Q5 ?_
 refine YG [5] [] mixed (by kernel_rfl) (by kernel_rfl) (by kernel_rfl) ?_
 refine RunA.rd Z Z Z (Qa (YI Z)) Z<|RunA.rd Z Z Z (Qa (Qe Z)) Z<|RunA.rd Z Z Z (Qa (Q2 Qbt Z)) Z<|RunA.rd Z Z Z (Qa (Q6 Qkn Z Z Z)) Z<|RunA.rd Z Z Z (Qa (JA JE Z Z Z Z)) Z ?_
 refine Qv h0 (fun x30 hx30 h0=>?_)
 refine RunA.eff Z Z Z (Qo (hp1':=[(1,.cells 212 [.mp 2,Qqp (max a3 (Qm ((⟨v5.2.1,v5.2.2.1⟩:Lvl).c+0)))]),(2,.mp (Jz x30.1) x30.2)]) (tk1':=[]) (hpF:=m152f2_h6 v5 v28) (tkF:=[]) (res2:=Qh []) (nx2:=6) [1,2] Z Z (m180f4_ok (⟨v5.2.1,v5.2.2.1⟩:Lvl) 0 a3 a4 x30 hx30) Z Z (Qq5 Z Z (Qq4 Z Qq3)) Z Z (Qqk Z (Qql Z Qqj)) Qqe (hA Z) Qqa Z Z Z Z Z (Qqz Z Z (Qqy Z Qqx)) Z Z Z Z) Z ?_
 refine RunA.nil ⟨?ex,_,_,Z,?_⟩
 case ex=>exact trivial
 refine Xq (st':=⟨[],[(0,Q6h v5 v28),(1,.cells 212 [.mp 2,Qqp (max a3 (Qm ((⟨v5.2.1,v5.2.2.1⟩:Lvl).c+0)))]),(2,.mp (Jz x30.1) x30.2),(3,.cells 82 [Qqp v5.2.1,Qqn v5.2.2.1]),(4,.cells 82 [Qqp v5.2.2.2.2.2.1,Qqn v5.2.2.2.2.2.2])],[],6,55,[]⟩) (J2 Qps (hA Z) Qqa Z (Ca hv0 (Qq9 Z)) Z Z Z (Qqz Z Z (Qqz Z Z (Qqy Z (Qr0 Z)))) Z Z) ?_
 have e:=Qpy h0;subst e
 exact hQ0 _ _ _ (.inl Z) Z (J2 Qps (hA Z) Qqa Z (Ca hv0 (Qq9 Z)) Z Z Z (Qqz Z Z (Qqz Z Z (Qqy Z Qqx))) Z Z)
def Q8r (a0:Qt):Option Unit :=
 some ()
theorem m182f7_ok (a0:Qt) (r:Unit) (h0:Q8r a0=some r):CallM Tryz.prog 182 [.one (.mp 0)] ⟨[(0,.mp (Jz a0.1) a0.2)],[],1⟩ (Qh [.one (.fn 209 [(1,0)])]) ⟨[(0,.mp (Jz a0.1) a0.2),(1,.cells 210 [.mp 0])],[],2⟩:=by
 unfold Q8r at h0
 refine Qp ⟨[(2,.v (.one (.fn 209 [(1,0)])))],[(0,.mp (Jz a0.1) a0.2),(1,.cells 210 [.mp 0])],[],2,4,[]⟩ Z Z en_182 (Qq9 Z) Z (Jk Z .nil) (fun w0 M V0 Q hv0 hQ0=>?_)
 simp only [J5]
 refine Q4<|Q0<|Qk Z Z (Qq9 Z) (Y2 Z)<|Qq2 Z Z Z<|Q3<|Q5<|Q4<|Q0<|Qq0 Z Z Z (Xv Z)<|Qq2 Z Z Z<|Q3<|Q5<|QU ?_
 have e:=Qpy h0;subst e
 exact hQ0 _ _ _ (.inr Z) Z (J2 (Qpw Z) (hA Z) Qqa Z (Ca hv0 (Qq9 Z)) Z Z Z (Qqy Z (Qr0 Z)) Z Z)
def Q2e (a0:Qrf) (a1:Int) (a2:List Qrf):Option Unit :=
 some ()
theorem m189f12_ok (a0:Qrf) (a1:Int) (a2:List Qrf) (r:Unit) (h0:Q2e a0 a1 a2=some r):CallM Tryz.prog 189 [.agg (Qqt a0),.one (.ptr 0 0)] ⟨[(0,.cells 82 [Qqp a1,Qqr 1 a2])],[(1,some ⟨142,2,(Enc.encL a2).length,[]⟩)],2⟩ (Qh [.one (Qqq (decide (a1≤a0.2)))]) ⟨[(0,.cells 82 [Qqp a1,Qqr 1 a2])],[(1,some ⟨142,2,(Enc.encL a2).length,[]⟩)],3⟩:=by
 unfold Q2e at h0
 refine Qp ⟨[(3,.v (.one (Qqq (decide (a1≤a0.2)))))],[(0,.cells 82 [Qqp a1,Qqr 1 a2])],[(1,some ⟨142,2,(Enc.encL a2).length,[]⟩)],3,9,[]⟩ Z Z Qk2 (Qq9 Z) Z (Jk Z .nil) (fun w0 M V0 Q hv0 hQ0=>?_)
 simp only [J5]
 refine Q4<|Q0<|Qk Z Z (Qq9 Z) (Y2 Z)<|Qq2 Z Z Z<|Q3<|Q5<|Q4<|Q0<|Qq0 Z Z Z (Q2 Q46 Z)<|Qq0 Z Z Z (Q6 Y1 Z Z Z)<|Qq0 Z Z Z (Q2 Q2i Z)<|Qq0 Z Z Z (Q6 Y1 Z Z Z)<|Qq0 Z Z Z (Qb Z Z Z)<|Qq2 Z Z Z ?_
 refine Q3<|Q5<|QU ?_
 have e:=Qpy h0;subst e
 exact hQ0 _ _ _ (.inr Z) Z (Qpx (Ca hv0 (Qq9 Z)) Z Z Z Z Z)
def Yw (a0:List Qrf) (a1:Int) (a2:List Qrf) (s1:Int):Option (LO Int (Unit⊕Int)) :=
 cond (decide (s1 < (a0.length:Int)))
   (Option.bind (J0 a0 s1) fun (x3:Qrf) =>
 Option.bind (Q2e x3 a1 a2) fun (x4:Unit) =>
 cond (decide (a1≤x3.2))
   (some (.done (.inr s1)))
   (some (.next (Qm (s1+1)))))
   (some (.done (.inl ())))
def Q2d (a0:List Qrf) (a1:Int) (a2:List Qrf):Option Int :=
 Option.bind (Q9 (Yw a0 a1 a2) Qd 0) (Sum.elim (fun (o1:Unit)=>some (-1)) (fun o=>some o))
theorem m211f11_ok (a0:List Qrf) (a1:Int) (a2:List Qrf) (r:Int) (h0:Q2d a0 a1 a2=some r):CallM Tryz.prog 211 [.one (Qqr 0 a0),.one (.fn 189 [(1,0)])] ⟨[(1,.cells 82 [Qqp a1,Qqr 0 a2])],[(0,some ⟨142,2,(Enc.encL a2).length,[]⟩)],2⟩ (Qh [.one (Qqp r)]) ⟨[(1,.cells 82 [Qqp a1,Qqr 0 a2])],[(0,some ⟨142,2,(Enc.encL a2).length,[]⟩)],2⟩:=by
 unfold Q2d at h0
 refine Qp ⟨[(4,.v (.one (Qqp r)))],[(1,.cells 82 [Qqp a1,Qqr 0 a2])],[(0,some ⟨142,2,(Enc.encL a2).length,[]⟩)],2,19,[]⟩ Z Z Qk1 (Qq9 Z) Z (Jk Z .nil) (fun w0 M V0 Q hv0 hQ0=>?_)
 simp only [J5]
 refine Q4<|Q0<|Qq2 Z Z Z<|Q3<|Q5<|Q4<|Q4<|Q0<|Qq1 Z Z Z<|Qq0 Z Z Z (JG (α:=Qrf) UU Z (.app _ _))<|Qq1 Z Z Z<|Q3<|Q5<|QH ?_
 refine G0 0 (fun (o1:Unit)=>⟨[],[(1,.cells 82 [Qqp a1,Qqr 0 a2])],[(0,some ⟨142,2,(Enc.encL a2).length,[]⟩)],2,19,[]⟩) (fun (o1:Unit)=>(some (-1))=some r) ?_ ?_
 refine Qv h0 (fun o2 hl1 h0=>?_)
 refine KZ (Yw a0 a1 a2) (fun s1=>⟨[(0,.v (.one (Qqr 0 a0))),(1,.v (.one (.fn 189 [(1,0)]))),(7,.v (.one (Qqp (a0.length:Int)))),(8,.v (.one (Qqp s1)))],[(1,.cells 82 [Qqp a1,Qqr 0 a2])],[(0,some ⟨142,2,(Enc.encL a2).length,[]⟩)],2,19,[]⟩) 0 o2 (Qpx (Ca hv0 (Qq9 Z)) Z Z Z Z Z) hl1 (fun s1 n1 oo1 h1 ho1=>?_)
 unfold Yw at h1
 refine Q4<|Q0<|Qq0 Z Z Z (Qb Z Z Z)<|Q3<|Q5<|Q4 ?_
 refine Qy (b:=(decide (s1 < (a0.length:Int)))) Z (fun c3=>?_) (fun c3=>?_)
 replace h1:=QF c3 h1
 refine QY<|Q5<|Q4<|QH<|Q4<|Q0<|Qq1 Z Z Z<|Qq2 Z Z Z<|Q3<|Q5<|Q4<|Q0<|Qq1 Z Z Z<|Qq1 Z Z Z ?_
 refine Qq1 Z Z Z ?_
 refine Qv h1 (fun x4 hx4 h1=>?_)
 refine Qq0 Z Z Z (GZ (α:=Qrf) UU Z (.app _ _) Z hx4)<|Qq0 Z Z Z (Kn (x4:Qrf) Q50 Z) ?_
 refine Qv h1 (fun x5 hx5 h1=>?_)
 refine Qk Z Z (Qq9 Z) (Qo (hp1':=[(1,.cells 82 [Qqp a1,Qqr 0 a2])]) (tk1':=[(0,some ⟨142,2,(Enc.encL a2).length,[]⟩)]) (hpF:=[]) (tkF:=[]) (res2:=Qh [.one (Qqq (decide (a1≤x4.2)))]) (nx2:=3) [1,0] Z Z (m189f12_ok x4 a1 a2 x5 hx5) Z Z (Qq5 Z Z Qq3) Z Z (Qqk Z Qqj) (Qqf Z Qqe) Qqh Qqa Z Z Z Z Z (Qr0 Z) Z Z Z Z)<|Q3<|Q5 ?_
 refine Qy (b:=(decide (a1≤x4.2))) Z (fun c6=>?_) (fun c6=>?_)
 replace h1:=QF c6 h1
 refine Q4<|Q0<|Qq1 Z Z Z<|Qq2 Z Z Z<|Q3<|Q5<|QU ?_
 have e:=Qpy h1;subst e
 have e_:_=_:=ho1
 subst e_
 try dsimp only [Sum.elim_inl,Sum.elim_inr] at h0
 have e:=Qpy h0;subst e
 exact hQ0 _ _ _ (.inr Z) Z (Qpx (Ca hv0 (Qq9 Z)) Z Z Z Z Z)
 replace h1:=QG c6 h1
 refine QY<|Ji<|Q5<|Q0<|Qq0 Z Z Z (Qb Z Z Z)<|Qq1 Z Z Z<|Q3 ?_
 have e:=Qpy h1;subst e
 refine KX (Qm (s1+1)) (Qpx (Ca hv0 (Qq9 Z)) Z Z Z Z Z) ho1
 replace h1:=QG c3 h1
 refine Gj<|JP<|JP ?_
 have e:=Qpy h1;subst e
 have e_:_=_:=ho1
 subst e_
 exact KY () (Qpx (Ca hv0 (Qq9 Z)) Z Z Z Z Z) h0
 intro o1 h0
 refine Z6<|Q5<|Q4<|Q0<|Qq2 Z Z Z<|Q3<|Q5<|QU ?_
 have e:=Qpy h0;subst e
 exact hQ0 _ _ _ (.inr Z) Z (Qpx (Ca hv0 (Qq9 Z)) Z Z Z Z Z)
def Q2f (a0:List Qrf) (a1:Int) (a2:List Qrf):Option Bool :=
 Option.bind (Q2d a0 a1 a2) fun (x1:Int) =>
 some (decide (0≤x1))
theorem m188f10_ok (a0:List Qrf) (a1:Int) (a2:List Qrf) (r:Bool) (h0:Q2f a0 a1 a2=some r):CallM Tryz.prog 188 [.one (Qqr 0 a0),.one (.fn 189 [(1,0)])] ⟨[(1,.cells 82 [Qqp a1,Qqr 0 a2])],[(0,some ⟨142,2,(Enc.encL a2).length,[]⟩)],2⟩ (Qh [.one (Qqq r)]) ⟨[(1,.cells 82 [Qqp a1,Qqr 0 a2])],[(0,some ⟨142,2,(Enc.encL a2).length,[]⟩)],2⟩:=by
 unfold Q2f at h0
 refine Qp ⟨[(4,.v (.one (Qqq r)))],[(1,.cells 82 [Qqp a1,Qqr 0 a2])],[(0,some ⟨142,2,(Enc.encL a2).length,[]⟩)],2,9,[]⟩ Z Z Qk3 (Qq9 Z) Z (Jk Z .nil) (fun w0 M V0 Q hv0 hQ0=>?_)
 simp only [J5]
 refine Q4<|Q0<|Qq2 Z Z Z<|Q3<|Q5<|Q4<|Q0<|Qq1 Z Z Z<|Qq1 Z Z Z ?_
 refine Qv h0 (fun x1 hx1 h0=>?_)
 refine Qk Z Z (Qq9 Z) (Qo (hp1':=[(1,.cells 82 [Qqp a1,Qqr 0 a2])]) (tk1':=[(0,some ⟨142,2,(Enc.encL a2).length,[]⟩)]) (hpF:=[]) (tkF:=[]) (res2:=Qh [.one (Qqp x1)]) (nx2:=2) [0,1] Z Z (m211f11_ok a0 a1 a2 x1 hx1) Z Z (Qq5 Z Z Qq3) Z Z (Qqk Z Qqj) (Qqf Z Qqe) Qqh Qqa Z Z Z Z Z (Qr0 Z) Z Z Z Z)<|Qq0 Z Z Z (Qb Z Z Z)<|Qq2 Z Z Z<|Q3<|Q5<|QU ?_
 have e:=Qpy h0;subst e
 exact hQ0 _ _ _ (.inr Z) Z (Qpx (Ca hv0 (Qq9 Z)) Z Z Z Z Z)
def Q3m (a0:Int) (a1:List Qrf):Option Bool :=
 Option.bind (Q2f a1 a0 a1) fun (x1:Bool) =>
 some x1
theorem m158f9_ok (a0:Int) (a1:List Qrf) (r:Bool) (h0:Q3m a0 a1=some r):CallM Tryz.prog 158 [.agg [Qqp a0,Qqr 0 a1]] ⟨[],[(0,some ⟨142,2,(Enc.encL a1).length,[]⟩)],1⟩ (Qh [.one (Qqq r)]) ⟨[],[(0,some ⟨142,2,(Enc.encL a1).length,[]⟩)],2⟩:=by
 unfold Q3m at h0
 refine Qp ⟨[(2,.v (.one (Qqq r)))],[],[(0,some ⟨142,2,(Enc.encL a1).length,[]⟩)],2,7,[]⟩ Z Z Qk4 (Qq9 Z) Z (Jk Z .nil) (fun w0 M V0 Q hv0 hQ0=>?_)
 simp only [J5]
 refine Q4<|Q0<|Qk Z Z (Qq9 Z) (Y2 Z)<|Qq2 Z Z Z<|Q3<|Q5<|Q4<|Q0<|Qq0 Z Z Z (Q2 Do Z)<|Qq0 Z Z Z (Q6 Qcg Z Z Z)<|Qq0 Z Z Z (Xv Z) ?_
 refine Qv h0 (fun x1 hx1 h0=>?_)
 refine Qk Z Z (Qq9 Z) (Qo (hp1':=[(1,.cells 82 [Qqp a0,Qqr 0 a1])]) (tk1':=[(0,some ⟨142,2,(Enc.encL a1).length,[]⟩)]) (hpF:=[]) (tkF:=[]) (res2:=Qh [.one (Qqq x1)]) (nx2:=2) [0,1] Z Z (m188f10_ok a1 a0 a1 x1 hx1) Z Z (Qq5 Z Z Qq3) Z Z (Qqk Z Qqj) (Qqf Z Qqe) Qqh Qqa Z Z Z Z Z (Qr0 Z) Z Z Z Z)<|Qq2 Z Z Z<|Q3<|Q5<|QU ?_
 have e:=Qpy h0;subst e
 exact hQ0 _ _ _ (.inr Z) Z (Qpx (Ca hv0 (Qq9 Z)) Z Z Z Z Z)
def ZD (a1:List Qrf) (s1:Int):Option (LO Int (Unit⊕((Int×Int×(List Qrf))))) :=
 cond (decide (s1 < (a1.length:Int)))
   (Option.bind (J0 a1 s1) fun (x3:Qrf) =>
 cond (decide (100 < x3.2))
   (some (.done (.inr (15,0,([]:List Qrf)))))
   (some (.next (Qm (s1+1)))))
   (some (.done (.inl ())))
def Q01 (a0:Int) (a1:List Qrf):Option ((Int×Int×(List Qrf))) :=
 Option.bind (Q9 (ZD a1) Qd 0) (Sum.elim (fun (o1:Unit)=>cond (decide (100 < a0))
   (some (15,0,([]:List Qrf)))
   (Option.bind (Q3m a0 a1) fun (x3:Bool) =>
 cond x3
   (some (0,0,a1))
   (some (0,a0,a1)))) (fun o=>some o))
theorem m183f8_ok (a0:Int) (a1:List Qrf) (r:(Int×Int×(List Qrf))) (h0:Q01 a0 a1=some r):CallM Tryz.prog 183 [.agg [Qqp a0,Qqr 0 a1]] ⟨[],[(0,some ⟨142,2,(Enc.encL a1).length,[]⟩)],1⟩ (Qh [.agg [Qqp r.2.1,Qqn r.2.2],.one (Qqp r.1)]) ⟨[(2,.cells 82 [Qqp r.2.1,Qqn r.2.2])],[(0,some ⟨142,2,(Enc.encL a1).length,[]⟩)],3⟩:=by
 unfold Q01 at h0
 refine Qp ⟨[(2,.v (.one (.ptr 2 0))),(3,.v (.one (Qqp r.1)))],[(2,.cells 82 [Qqp r.2.1,Qqn r.2.2])],[(0,some ⟨142,2,(Enc.encL a1).length,[]⟩)],3,26,[]⟩ Z Z en_183 (Qq9 Z) Z (Zs JE Z Z Z Z (Jk Z .nil)) (fun w0 M V0 Q hv0 hQ0=>?_)
 simp only [J5]
 refine Q4<|Q0<|Qk Z Z (Qq9 Z) (Y2 Z)<|Qk Z Z (Qq9 Z) (QS Qcq Z)<|Qq2 Z Z Z<|Q3<|Q5<|Q4<|Q4<|Q0<|Qq0 Z Z Z (Q2 Do Z)<|Qq0 Z Z Z (Q6 Qcg Z Z Z)<|Qq0 Z Z Z (JG (α:=Qrf) UU Z (.app _ _))<|Qq1 Z Z Z ?_
 refine Q3<|Q5<|QH ?_
 refine G0 0 (fun (o1:Unit)=>⟨[(1,.v (.one (.ptr 1 0))),(2,.v (.one (.ptr 2 0)))],[(1,.cells 82 [Qqp a0,Qqr 0 a1]),(2,.cells 82 [Qqp 0,Qqo])],[(0,some ⟨142,2,(Enc.encL a1).length,[]⟩)],3,26,[]⟩) (fun (o1:Unit)=>(cond (decide (100 < a0))
     (some (15,0,([]:List Qrf)))
     (Option.bind (Q3m a0 a1) fun (x3:Bool) =>
   cond x3
     (some (0,0,a1))
     (some (0,a0,a1))))=some r) ?_ ?_
 refine Qv h0 (fun o2 hl1 h0=>?_)
 refine KZ (ZD a1) (fun s1=>⟨[(1,.v (.one (.ptr 1 0))),(2,.v (.one (.ptr 2 0))),(7,.v (.one (Qqr 0 a1))),(8,.v (.one (Qqp (a1.length:Int)))),(9,.v (.one (Qqp s1)))],[(1,.cells 82 [Qqp a0,Qqr 0 a1]),(2,.cells 82 [Qqp 0,Qqo])],[(0,some ⟨142,2,(Enc.encL a1).length,[]⟩)],3,26,[]⟩) 0 o2 (Qpx (Ca hv0 (Qq9 Z)) Z Z Z Z Z) hl1 (fun s1 n1 oo1 h1 ho1=>?_)
 unfold ZD at h1
 refine Q4<|Q0<|Qq0 Z Z Z (Qb Z Z Z)<|Q3<|Q5<|Q4 ?_
 refine Qy (b:=(decide (s1 < (a1.length:Int)))) Z (fun c3=>?_) (fun c3=>?_)
 replace h1:=QF c3 h1
 refine QY<|Q5<|Q4<|QH<|Q4<|Q0 ?_
 refine Qv h1 (fun x4 hx4 h1=>?_)
 refine Qq0 Z Z Z (GZ (α:=Qrf) UU Z (.app _ _) Z hx4)<|Qq0 Z Z Z (Kn (x4:Qrf) Q50 Z)<|Qk Z Z (Qq9 Z) (QS Qeg Z)<|QR Z Z (Zt (x4:Qrf) Q50 Z Z Z Z Z)<|Q3<|Q5<|Q4<|Q0<|Qq0 Z Z Z (Q2 Q46 Z)<|Qq0 Z Z Z (Q6 Y1 Z Z Z)<|Qq0 Z Z Z (Qb Z Z Z)<|Q3<|Q5 ?_
 refine Qy (b:=(decide (100 < x4.2))) Z (fun c5=>?_) (fun c5=>?_)
 replace h1:=QF c5 h1
 refine Q4<|Q0<|Qq0 Z Z Z (YJ XD Z )<|QR Z Z (Qi JE Z Z Z Z (Qq9 Z) Z)<|Qq2 Z Z Z<|Q3<|Q5<|QU ?_
 have e:=Qpy h1;subst e
 have e_:_=_:=ho1
 subst e_
 try dsimp only [Sum.elim_inl,Sum.elim_inr] at h0
 have e:=Qpy h0;subst e
 exact hQ0 _ _ _ (.inr Z) Z (J2 (Qpw Z) (Qqi Z (.cons (.refl _) (.cons (.sub (.nil _)) .nil)) Qqh) (Qqb Z) Z (Ca hv0 (Qq9 Z)) Z Z Z (Qr0 Z) Z Z)
 replace h1:=QG c5 h1
 refine QY<|Ji<|Q5<|Q0<|Qq0 Z Z Z (Qb Z Z Z)<|Qq1 Z Z Z<|Q3 ?_
 have e:=Qpy h1;subst e
 refine KX (Qm (s1+1)) (Qpx (Ca hv0 (Qq9 Z)) Z Z Z Z Z) ho1
 replace h1:=QG c3 h1
 refine Gj<|JP<|JP ?_
 have e:=Qpy h1;subst e
 have e_:_=_:=ho1
 subst e_
 exact KY () (Qpx (Ca hv0 (Qq9 Z)) Z Z Z Z Z) h0
 intro o1 h0
 refine Z6<|Q5<|Q4<|Q4<|Q0<|Qq0 Z Z Z (Q2 Q2i Z)<|Qq0 Z Z Z (Q6 Y1 Z Z Z)<|Qq0 Z Z Z (Qb Z Z Z)<|Q3<|Q5 ?_
 refine Qy (b:=(decide (100 < a0))) Z (fun c6=>?_) (fun c6=>?_)
 replace h0:=QF c6 h0
 refine Q4<|Q0<|Qq0 Z Z Z (YJ XD Z )<|QR Z Z (Qi JE Z Z Z Z (Qq9 Z) Z)<|Qq2 Z Z Z<|Q3<|Q5<|QU ?_
 have e:=Qpy h0;subst e
 exact hQ0 _ _ _ (.inr Z) Z (J2 (Qpw Z) (Qqi Z (.cons (.refl _) (.cons (.sub (.nil _)) .nil)) Qqh) (Qqb Z) Z (Ca hv0 (Qq9 Z)) Z Z Z (Qr0 Z) Z Z)
 replace h0:=QG c6 h0
 refine QY<|Q5<|Q4<|Q4<|Q0<|Qq0 Z Z Z (JA JE Z Z Z Z) ?_
 refine Qv h0 (fun x7 hx7 h0=>?_)
 refine Qk Z Z (Qq9 Z) (Qo (hp1':=[]) (tk1':=[(0,some ⟨142,2,(Enc.encL a1).length,[]⟩)]) (hpF:=[(1,.cells 82 [Qqp a0,Qqr 0 a1]),(2,.cells 82 [Qqp 0,Qqo])]) (tkF:=[]) (res2:=Qh [.one (Qqq x7)]) (nx2:=4) [0] Z Z (m158f9_ok a0 a1 x7 hx7) Z Z Qq3 Z Z Qqj (Qqf Z Qqe) (hA Z) Qqa Z Z Z Z Z Qqx Z Z Z Z)<|Q3<|Q5 ?_
 refine Qy (b:=x7) Z (fun c8=>?_) (fun c8=>?_)
 replace h0:=QF c8 h0
 refine Q0<|Qq0 Z Z Z (Q2 Q2i Z)<|QR Z Z (Qi Y1 Z Z Z Z (Qq9 Z) Z)<|Q3<|Q5<|Q4<|Q0<|Qq0 Z Z Z (JA JE Z Z Z Z)<|QR Z Z (Qi JE Z Z Z Z (Qq9 Z) Z)<|Qq2 Z Z Z<|Q3<|Q5<|QU ?_
 have e:=Qpy h0;subst e
 exact hQ0 _ _ _ (.inr Z) Z (J2 (Qpw Z) (Qqi Z (.cons (.refl _) (.cons (.sub (.app _ _ _)) .nil)) Qqh) (Qqb Z) Z (Ca hv0 (Qq9 Z)) Z Z Z (Qr0 Z) Z Z)
 replace h0:=QG c8 h0
 refine QY<|Q5<|Q4<|Q0<|Qq0 Z Z Z (JA JE Z Z Z Z)<|QR Z Z (Qi JE Z Z Z Z (Qq9 Z) Z)<|Qq2 Z Z Z<|Q3<|Q5<|QU ?_
 have e:=Qpy h0;subst e
 exact hQ0 _ _ _ (.inr Z) Z (J2 (Qpw Z) (Qqi Z (.cons (.refl _) (.cons (.sub (.app _ _ _)) .nil)) Qqh) (Qqb Z) Z (Ca hv0 (Qq9 Z)) Z Z Z (Qr0 Z) Z Z)
def Kv (a1:Qt) (s1:Int×(List Qrf)):Option (LO (Int×(List Qrf)) (((List Qrf)))) :=
 cond (decide (s1.1 < ((JC a1).length:Int)))
   (Option.bind (J0 (JC a1) s1.1) fun (x5:Int) =>
 Q7 (Nat.ble (s1.2.length+([(x5,(YM a1 x5))]).length) 1000000000)
 (some (.next ((Qm (s1.1+1)),(s1.2++([(x5,(YM a1 x5))]))))))
   (some (.done s1.2))
abbrev m153f6_h0 (p0_:Int):List (Nat×HB) :=
 [(0,.cells 212 [.mp 1,Qqp p0_]),(2,.cells 82 [Qqp 0,Qqo]),(3,.cells 82 [Qqp p0_,Qqo])]
abbrev m153f6_h1 (p0_:Int) (p1_:Int×(List Qrf)) (p2_:Int) (p3_:Qt):HB :=
 .cells 82 [Qqp p0_,Qqr 5 ((p1_.2++([(p2_,(YM p3_ p2_))])):List Qrf)]
abbrev m153f6_h2 (p0_:Int) (p1_:Qt) (p2_:Int×(List Qrf)) (p3_:Int):List (Nat×HB) :=
 [(0,.cells 212 [.mp 1,Qqp p0_]),(1,.mp (Jz p1_.1) p1_.2),(2,.cells 82 [Qqp 0,Qqo]),(3,m153f6_h1 p0_ p2_ p3_ p1_),(4,.cells 210 [.mp 1])]
abbrev m153f6_h3 (p0_:Int) (p1_:Qt) (p2_:(List Qrf)):List (Nat×HB) :=
 [(0,.cells 212 [.mp 1,Qqp p0_]),(1,.mp (Jz p1_.1) p1_.2),(2,.cells 82 [Qqp 0,Qqo]),(3,.cells 82 [Qqp p0_,Qqr 5 p2_]),(4,.cells 210 [.mp 1])]
abbrev Q6e (p0_:Int) (p1_:Qt) (p2_:(Int×Int×(List Qrf))):List (Nat×HB) :=
 [(0,.cells 212 [.mp 1,Qqp p0_]),(1,.mp (Jz p1_.1) p1_.2),(2,.cells 82 [Qqp p2_.2.1,Qqn p2_.2.2])]
def W3 (a0:Int) (a1:Qt):Option ((Int×Int×(List Qrf))) :=
 Option.bind (Q8r a1) fun (x1:Unit) =>
 Q7 (Q5h a1)
 (Option.bind (Q9 (Kv a1) Qd (0,([]:List Qrf))) (fun (o3:(List Qrf))=>Option.bind (Q01 a0 o3) fun (x4:(Int×Int×(List Qrf))) =>
 some (x4.1,x4.2.1,x4.2.2)))
theorem m153f6_ok (a0:Int) (a1:Qt) (r:(Int×Int×(List Qrf))) (h0:W3 a0 a1=some r):CallM Tryz.prog 153 [.one (.ptr 0 0)] ⟨[(0,.cells 212 [.mp 1,Qqp a0]),(1,.mp (Jz a1.1) a1.2)],[],2⟩ (Qh [.agg [Qqp r.2.1,Qqn r.2.2],.one (Qqp r.1)]) ⟨Q6e a0 a1 r,[],8⟩:=by
 unfold W3 at h0
 refine Qp ⟨[(2,.v (.one (.ptr 2 0))),(3,.v (.one (Qqp r.1)))],Q6e a0 a1 r,[],8,41,[]⟩ Z Z en_153 (Qq9 Z) Z (Zs JE Z Z Z Z (Jk Z .nil)) (fun w0 M V0 Q hv0 hQ0=>?_)
 simp only [J5]
 refine Q4<|Q0<|Qk Z Z (Qq9 Z) (QS Qcq Z)<|Qq2 Z Z Z<|Q3<|Q5<|Q4<|Q0<|Qq1 Z Z Z<|Qq0 Z Z Z (Qe Z)<|Qq0 Z Z Z (Q2 Q44 Z)<|Qq0 Z Z Z (Q6 Y1 Z Z Z)<|Qq0 Z Z Z (KC XD Z Z Z)<|Qk Z Z (Qq9 Z) (QS Qcq Z) ?_
 refine QR Z Z (Qi JE Z Z Z Z (Qq9 Z) Z)<|Q3<|Q5<|Q4<|Q4<|Q0<|Qq1 Z Z Z<|Qq0 Z Z Z (Qe Z)<|Qq0 Z Z Z (Q2 Q45 Z)<|Qq0 Z Z Z (Q6 Qeb Z Z Z) ?_
 refine Qv h0 (fun x1 hx1 h0=>?_)
 refine Qk Z Z (Qq9 Z) (Qo (hp1':=[(1,.mp (Jz a1.1) a1.2),(4,.cells 210 [.mp 1])]) (tk1':=[]) (hpF:=m153f6_h0 a0) (tkF:=[]) (res2:=Qh [.one (.fn 209 [(4,0)])]) (nx2:=5) [1] Z Z (m182f7_ok a1 x1 hx1) Z Z (Qq4 Z (Qq5 Z Z Qq3)) Z Z (Qql Z Qqj) Qqe (hA Z) Qqa Z Z Z Z Z (Qqy Z Qqx) Z Z Z Z) ?_
 refine UA h0 (fun Qqm h0=>?_)
 refine Qk Z Z (Qq9 Z) (OpOK.sortedKeys Z Z Z Z Qqm)<|Qq0 Z Z Z (JG (α:=Int) Qi9 Z (.d _))<|Qq1 Z Z Z<|Q3<|Q5<|QH ?_
 refine G0 0 (fun (o3:(List Qrf))=>⟨[(2,.v (.one (.ptr 2 0))),(4,.v (.one (.ptr 3 0)))],[(0,.cells 212 [.mp 1,Qqp a0]),(1,.mp (Jz a1.1) a1.2),(2,.cells 82 [Qqp 0,Qqo]),(3,.cells 82 [Qqp a0,Qqr 5 o3]),(4,.cells 210 [.mp 1])],[(5,some ⟨142,2,(Enc.encL o3).length,[]⟩)],6,41,[]⟩) (fun (o3:(List Qrf))=>(Option.bind (Q01 a0 o3) fun (x4:(Int×Int×(List Qrf))) =>
   some (x4.1,x4.2.1,x4.2.2))=some r) ?_ ?_
 refine XC.adoptC (i:=3) (off:=1) 142 2 Z Z ?_
 refine Qv h0 (fun o4 hl1 h0=>?_)
 refine KZ (Kv a1) (fun s1=>⟨[(0,.v (.one (.ptr 0 0))),(2,.v (.one (.ptr 2 0))),(4,.v (.one (.ptr 3 0))),(17,.v (.one (Qqn ((JC a1):List Int)))),(18,.v (.one (Qqp ((JC a1).length:Int)))),(19,.v (.one (Qqp s1.1)))],[(0,.cells 212 [.mp 1,Qqp a0]),(1,.mp (Jz a1.1) a1.2),(2,.cells 82 [Qqp 0,Qqo]),(3,.cells 82 [Qqp a0,Qqr 5 s1.2]),(4,.cells 210 [.mp 1])],[(5,some ⟨142,2,(Enc.encL s1.2).length,[]⟩)],6,41,[]⟩) (0,([]:List Qrf)) o4 (J2 (Qpw Z) (hA Z) (Qqb Z) Z (Ca hv0 (Qq9 Z)) Z Z Z (Qqz Z Z (Qqy Z (Qr0 Z))) Z Z) hl1 (fun s1 n1 oo1 h1 ho1=>?_)
 unfold Kv at h1
 refine Q4<|Q0<|Qq0 Z Z Z (Qb Z Z Z)<|Q3<|Q5<|Q4 ?_
 refine Qy (b:=(decide (s1.1 < ((JC a1).length:Int)))) Z (fun c5=>?_) (fun c5=>?_)
 replace h1:=QF c5 h1
 refine QY<|Q5<|Q4<|QH<|Q4<|Q0 ?_
 refine Qv h1 (fun x6 hx6 h1=>?_)
 refine Qq0 Z Z Z (GZ (α:=Int) Qi9 Z (.d _) Z hx6)<|Qq0 Z Z Z (Q53 Y1 Z Z)<|Qq2 Z Z Z<|Q3<|Q5 ?_
 refine YG [11,13] [] mixed (by kernel_rfl) (by kernel_rfl) (by kernel_rfl) ?_
 refine RunA.rd Z Z Z (Qa (Q2 Do Z)) Z<|RunA.rd Z Z Z (Qa (Q6 Qcg Z Z Z)) Z<|RunA.rd Z Z Z (Qa (YI Z)) Z<|RunA.rd Z Z Z (Qa (YI Z)) Z<|RunA.rd Z Z Z (Qa (Qe Z)) Z<|RunA.rd Z Z Z (Qa (Q2 Q45 Z)) Z<|RunA.rd Z Z Z (Qa (Q6 Qeb Z Z Z)) Z<|RunA.rd Z Z Z (Qa (YI Z)) Z<|RunA.rd Z Z Z (Qa (RO.lookupF Qd6 Z Z Z)) Z<|RunA.rd Z Z Z (Qa (QK Qkg Z Z Z Z)) Z<|RunA.rd Z Z Z (OpOK.data1E (α:=Qrf) ((x6,(YM a1 x6))) UU Qeg Z Z (Qq9 Z) Z Z (.cons (.d _) (.cons (.d _) .nil)) Z) Z ?_
 refine UA h1 (fun g7 h1=>?_)
 refine RunA.eff Z Z Z (DG (α:=Qrf) UU el_142 Z Z Z Z Z (.d _) g7) Z<|RunA.rd Z Z Z (Qa (Q2 Do Z)) Z<|RunA.eff Z Z Z (Qi Qcg Z Z Z Z (Qq9 Z) Z) Z ?_
 refine RunA.nil ⟨?ex,_,_,Z,?_⟩
 case ex=>exact trivial
 refine Xq (st':=⟨[(0,.v (.one (.ptr 0 0))),(2,.v (.one (.ptr 2 0))),(4,.v (.one (.ptr 3 0))),(17,.v (.one (Qqn ((JC a1):List Int)))),(18,.v (.one (Qqp ((JC a1).length:Int)))),(19,.v (.one (Qqp s1.1)))],m153f6_h2 a0 a1 s1 x6,[(5,some ⟨142,2,(Enc.encL ((s1.2++([(x6,(YM a1 x6))])):List Qrf)).length,[]⟩)],6,41,[]⟩) (J2 (Qpw Z) (hA Z) (Qqb Z) Z (Ca hv0 (Qq9 Z)) Z Z Z (Qqz Z Z (Qqy Z (Qr0 Z))) Z Z)<|Ji<|Q5<|Q0<|Qq0 Z Z Z (Qb Z Z Z)<|Qq1 Z Z Z<|Q3 ?_
 have e:=Qpy h1;subst e
 refine KX ((Qm (s1.1+1)),(s1.2++([(x6,(YM a1 x6))]))) (J2 (Qpw Z) (hA Z) (Qqb Z) Z (Ca hv0 (Qq9 Z)) Z Z Z (Qqz Z Z (Qqy Z (Qr0 Z))) Z Z) ho1
 replace h1:=QG c5 h1
 refine Gj<|JP<|JP ?_
 have e:=Qpy h1;subst e
 have e_:_=_:=ho1
 subst e_
 exact KY s1.2 (J2 (Qpw Z) (hA Z) (Qqb Z) Z (Ca hv0 (Qq9 Z)) Z Z Z (Qqz Z Z (Qqy Z (Qr0 Z))) Z Z) h0
 intro o3 h0
 refine Z6<|Q5<|Q4<|Q0<|Qq0 Z Z Z (JA JE Z Z Z Z) ?_
 refine Qv h0 (fun x8 hx8 h0=>?_)
 refine Qk Z Z (Qq9 Z) (Qo (hp1':=[(7,.cells 82 [Qqp x8.2.1,Qqn x8.2.2])]) (tk1':=[(5,some ⟨142,2,(Enc.encL o3).length,[]⟩)]) (hpF:=m153f6_h3 a0 a1 o3) (tkF:=[]) (res2:=Qh [.agg [Qqp x8.2.1,Qqn x8.2.2],.one (Qqp x8.1)]) (nx2:=8) [5] Z Z (m183f8_ok a0 o3 x8 hx8) Z Z (Qq5 Z Z Qq3) Z Z Qqj (Qqf Z Qqe) (hA Z) Qqa Z Z Z Z Z Qqx Z Z Z Z)<|Qq0 Z Z Z (J8 Z Z)<|Qq0 Z Z Z (J8 Z Z)<|QR Z Z (Qi JE Z Z Z Z (Qq9 Z) Z)<|Qq2 Z Z Z<|Q3<|Q5<|QU ?_
 have e:=Qpy h0;subst e
 exact hQ0 _ _ _ (.inr Z) Z (J2 (Qpw Z) (hA Z) Qqa Z (Ca hv0 (Qq9 Z)) Z Z Z (Qqz Z Z (Qqy Z (Qr0 Z))) Z Z)
def ZS  (s2:Bool×Qt×Int×Qrl×Bool×Int):Option (LO (Bool×Qt×Int×Qrl×Bool×Int) ((Qt×Int×Qrl×Bool×Int))) :=
 Option.bind (cond s2.1
   (some (!s2.2.2.2.2.1))
   (some false)) (fun (v11:Bool)=>cond v11
   (Option.bind (JI s2.2.2.2.1 s2.2.2.2.2.1 s2.2.2.2.2.2 s2.2.2.1 s2.2.1) fun (x13:Unit) =>
 Option.bind (W4 (s2.2.2.2.1.dropWhile (·==32)) s2.2.2.2.2.1 s2.2.2.2.2.2 s2.2.2.1 s2.2.1) fun (x14:(Qrl×Bool×Int×Int×Qt)) =>
 Option.bind (JI x14.1 x14.2.1 x14.2.2.1 x14.2.2.2.1 x14.2.2.2.2) fun (x15:Unit) =>
 Option.bind (Yk ([44]:List UInt8) (x14.1.dropWhile (·==32)) x14.2.1 x14.2.2.1 x14.2.2.2.1 x14.2.2.2.2) fun (x16:(Qrl)) =>
 some (.next ((Lib.hasPrefix (x14.1.dropWhile (·==32)) ([44]:List UInt8)),x14.2.2.2.2,x14.2.2.2.1,x16,x14.2.1,x14.2.2.1)))
   (some (.done (s2.2.1,s2.2.2.1,s2.2.2.2.1,s2.2.2.2.2.1,s2.2.2.2.2.2))))
abbrev Qfs :List (Nat×HB) :=
 [(0,.cells 82 [Qqp 0,Qqo]),(1,.mp (Jz imNil.1) imNil.2),(2,.cells 212 [.mp 1,Qqp 0])]
abbrev m127_h1 (p0_:Bool×Qt×Int×Qrl×Bool×Int):HB :=
 .cells 188 [ZT p0_.2.2.2.1,Qqq p0_.2.2.2.2.1,Qqp p0_.2.2.2.2.2,.ptr 2 0]
abbrev m127_h2 (p0_:Bool×Qt×Int×Qrl×Bool×Int):List (Nat×HB) :=
 [(0,.cells 82 [Qqp 0,Qqo]),(1,.mp (Jz p0_.2.1.1) p0_.2.1.2),(2,.cells 212 [.mp 1,Qqp p0_.2.2.1]),(3,m127_h1 p0_)]
abbrev Qfr (p0_:Qrl×Bool×Int×Int×Qt):HB :=
 .cells 188 [ZT (p0_.1.dropWhile (·==32)),Qqq p0_.2.1,Qqp p0_.2.2.1,.ptr 2 0]
abbrev Qfq (p0_:Qrl×Bool×Int×Int×Qt):List (Nat×HB) :=
 [(0,.cells 82 [Qqp 0,Qqo]),(1,.mp (Jz p0_.2.2.2.2.1) p0_.2.2.2.2.2),(2,.cells 212 [.mp 1,Qqp p0_.2.2.2.1]),(3,Qfr p0_)]
def Db (a0:Qrl):Option (Lvl×Int) :=
 cond (decide (65536 < (a0.length:Int)))
   (some ((⟨0,([]:List Qrf)⟩:Lvl),5))
   (Option.bind (some ()) (fun (y2:Unit)=>Option.bind (JI a0 false 0 0 imNil) fun (x4:Unit) =>
 Option.bind (Yk ([109,97,120]:List UInt8) (a0.dropWhile (·==32)) false 0 0 imNil) fun (x5:(Qrl)) =>
 Option.bind (cond (Lib.hasPrefix (a0.dropWhile (·==32)) ([109,97,120]:List UInt8))
   (Option.bind (JI x5 false 0 0 imNil) fun (x8:Unit) =>
 Option.bind (Yk ([40]:List UInt8) (x5.dropWhile (·==32)) false 0 0 imNil) fun (x9:(Qrl)) =>
 Option.bind (Q9 (ZS) Qd (true,imNil,0,x9,(!(Lib.hasPrefix (x5.dropWhile (·==32)) ([40]:List UInt8))),0)) (fun (o10:Qt×Int×Qrl×Bool×Int)=>Option.bind (Yk ([41]:List UInt8) o10.2.2.1 o10.2.2.2.1 o10.2.2.2.2 o10.2.1 o10.1) fun (x11:(Qrl)) =>
 cond (!(Lib.hasPrefix o10.2.2.1 ([41]:List UInt8)))
   (some (x11,true,o10.2.2.2.2,o10.2.1,o10.1))
   (some (x11,o10.2.2.2.1,o10.2.2.2.2,o10.2.1,o10.1))))
   (Option.bind (W4 x5 false 0 0 imNil) fun (x21:(Qrl×Bool×Int×Int×Qt)) =>
 some (x21.1,x21.2.1,x21.2.2.1,x21.2.2.2.1,x21.2.2.2.2))) (fun (v6:Qrl×Bool×Int×Int×Qt)=>Option.bind (JI v6.1 v6.2.1 v6.2.2.1 v6.2.2.2.1 v6.2.2.2.2) fun (x7:Unit) =>
 Option.bind (cond v6.2.1
   (some true)
   (some (!((v6.1.dropWhile (·==32))==([]:List UInt8))))) (fun (v8:Bool)=>cond v8
   (some ((⟨0,([]:List Qrf)⟩:Lvl),4))
   (cond (v6.2.2.1 != 0)
   (some ((⟨0,([]:List Qrf)⟩:Lvl),v6.2.2.1))
   (Option.bind (W3 v6.2.2.2.1 v6.2.2.2.2) fun (x11:(Int×Int×(List Qrf))) =>
 some ((⟨x11.2.1,x11.2.2⟩:Lvl),x11.1)))))))
theorem m127_ok (a0:Qrl) (r:Lvl×Int) (h0:Db a0=some r):Fun Tryz.prog 127 [.one (ZT a0)] (Qh [.agg (Qqt r.1),.one (Qqp r.2)]):=by
 unfold Db at h0
 refine Ko 9 83 Tryz.func127 Z en_127 Z (Qq9 Z) (fun S w=>?_)
 simp only [J5]
 refine Q4<|Q0<|Qk Z Z (Qq9 Z) (QS Qcq Z)<|Qq2 Z Z Z<|Q3<|Q5<|Q4<|Q4<|Q0<|Qq1 Z Z Z<|Qq0 Z Z Z (Q9y Qd0 Z)<|Qq0 Z Z Z (Qb Z Z Z)<|Q3<|Q5 ?_
 refine Qy (b:=(decide (65536 < (a0.length:Int)))) Z (fun c1=>?_) (fun c1=>?_)
 replace h0:=QF c1 h0
 refine Q4<|Q0<|Qq0 Z Z Z (YJ XD Z )<|QR Z Z (Qi JE Z Z Z Z (Qq9 Z) Z)<|Qq2 Z Z Z<|Q3<|Q5<|QU ?_
 have e:=Qpy h0;subst e
 exact Zr (fun _ _ h=>h) Z (Zs JE Z Z Z Z (Jk Z .nil)) (.cons (.agg (.cons (.d _) (.cons (.nil _) .nil))) (.cons (.one (.d _)) .nil))
 replace h0:=QG c1 h0
 refine QY<|Q5<|Q4<|Q0<|Qq1 Z Z Z ?_
 refine Qv h0 (fun y2 h1 h0=>?_)
 have hc3:CallM Tryz.prog 149 [] ⟨[(0,.cells 82 [Qqp 0,Qqo])],[],1⟩ (Qh [.one (.ptr 2 0)]) ⟨Qfs,[],3⟩:=by
  refine Qp ⟨[(0,.v (.one (.ptr 2 0)))],Qfs,[],3,4,[]⟩ Z Z en_149 (Qq9 Z) Z (Jk Z .nil) (fun w0 M V0 Q hv1 hQ1=>?_)
  simp only [J5]
  refine Q4<|Q0<|Qq2 Z Z Z<|Q3<|Q5<|Q4<|Q0<|Qk Z Z (Qq9 Z) (OpOK.makeMapI)<|Qq0 Z Z Z (KC bd_212 Z Z Z)<|Qk Z Z (Qq9 Z) (Y2 Z)<|Qq2 Z Z Z<|Q3<|Q5<|QU ?_
  have e:=Qpy h1;subst e
  exact hQ1 _ _ _ (.inr Z) Z (J2 (Qpw Z) (hA Z) Qqa Z (Ca hv1 (Qq9 Z)) Z Z Z (Qqz Z Z (Qqy Z (Qr0 Z))) Z Z)
 refine Qk Z Z (Qq9 Z) (G2 Z Z Z hc3 Z (hA Z) Qqa)<|Qq0 Z Z Z (QK bd_188 Z Z Z Z)<|Qk Z Z (Qq9 Z) (Y2 Z)<|Qq2 Z Z Z<|Q3<|Q5<|Q4<|Q0<|Qq1 Z Z Z ?_
 refine Qv h0 (fun x4 hx4 h0=>?_)
 refine Qk Z Z (Qq9 Z) (Qo (hp1':=[(3,.cells 188 [ZT (a0.dropWhile (·==32)),Qqq false,Qqp 0,.ptr 2 0]),(2,.cells 212 [.mp 1,Qqp 0]),(1,.mp (Jz imNil.1) imNil.2)]) (tk1':=[]) (hpF:=[(0,.cells 82 [Qqp 0,Qqo])]) (tkF:=[]) (res2:=Qh []) (nx2:=4) [3,2,1] Z Z (ZF a0 false 0 0 imNil x4 hx4) Z Z (Qq5 Z Z (Qq5 Z Z (Qq4 Z Qq3))) Z Z (Qqk Z (Qqk Z (Qql Z Qqj))) Qqe (hA Z) Qqa Z Z Z Z Z (Qqz Z Z (Qqz Z Z (Qqy Z Qqx))) Z Z Z Z)<|Q3<|Q5<|Q4<|Q4<|Q0<|Qq1 Z Z Z ?_
 refine Qv h0 (fun x5 hx5 h0=>?_)
 refine Qk Z Z (Qq9 Z) (Qo (hp1':=[(3,.cells 188 [ZT x5,Qqq false,Qqp 0,.ptr 2 0]),(2,.cells 212 [.mp 1,Qqp 0]),(1,.mp (Jz imNil.1) imNil.2)]) (tk1':=[]) (hpF:=[(0,.cells 82 [Qqp 0,Qqo])]) (tkF:=[]) (res2:=Qh [.one (Qqq (Lib.hasPrefix (a0.dropWhile (·==32)) ([109,97,120]:List UInt8)))]) (nx2:=4) [3,2,1] Z Z (ZE ([109,97,120]:List UInt8) (a0.dropWhile (·==32)) false 0 0 imNil x5 hx5) Z Z (Qq5 Z Z (Qq5 Z Z (Qq4 Z Qq3))) Z Z (Qqk Z (Qqk Z (Qql Z Qqj))) Qqe (hA Z) Qqa Z Z Z Z Z (Qqz Z Z (Qqz Z Z (Qqy Z Qqx))) Z Z Z Z)<|Q3<|Q5 ?_
 refine Jr (fun (v6:Qrl×Bool×Int×Int×Qt)=>⟨[(2,.v (.one (.ptr 0 0))),(4,.v (.one (.ptr 3 0)))],[(0,.cells 82 [Qqp 0,Qqo]),(1,.mp (Jz v6.2.2.2.2.1) v6.2.2.2.2.2),(2,.cells 212 [.mp 1,Qqp v6.2.2.2.1]),(3,.cells 188 [ZT v6.1,Qqq v6.2.1,Qqp v6.2.2.1,.ptr 2 0])],[],4,83,[]⟩) (fun (v6:Qrl×Bool×Int×Int×Qt)=>(Option.bind (JI v6.1 v6.2.1 v6.2.2.1 v6.2.2.2.1 v6.2.2.2.2) fun (x7:Unit) =>
   Option.bind (cond v6.2.1
     (some true)
     (some (!((v6.1.dropWhile (·==32))==([]:List UInt8))))) (fun (v8:Bool)=>cond v8
     (some ((⟨0,([]:List Qrf)⟩:Lvl),4))
     (cond (v6.2.2.1 != 0)
     (some ((⟨0,([]:List Qrf)⟩:Lvl),v6.2.2.1))
     (Option.bind (W3 v6.2.2.2.1 v6.2.2.2.2) fun (x11:(Int×Int×(List Qrf))) =>
   some ((⟨x11.2.1,x11.2.2⟩:Lvl),x11.1)))))=some r) ?_ ?_
 refine Qv h0 (fun w1_ h1 h0=>?_)
 refine Qy (b:=(Lib.hasPrefix (a0.dropWhile (·==32)) ([109,97,120]:List UInt8))) Z (fun c7=>?_) (fun c7=>?_)
 replace h1:=QF c7 h1
 refine Q4<|Q0<|Qq1 Z Z Z ?_
 refine Qv h1 (fun x8 hx8 h1=>?_)
 refine Qk Z Z (Qq9 Z) (Qo (hp1':=[(3,.cells 188 [ZT (x5.dropWhile (·==32)),Qqq false,Qqp 0,.ptr 2 0]),(2,.cells 212 [.mp 1,Qqp 0]),(1,.mp (Jz imNil.1) imNil.2)]) (tk1':=[]) (hpF:=[(0,.cells 82 [Qqp 0,Qqo])]) (tkF:=[]) (res2:=Qh []) (nx2:=4) [3,2,1] Z Z (ZF x5 false 0 0 imNil x8 hx8) Z Z (Qq5 Z Z (Qq5 Z Z (Qq4 Z Qq3))) Z Z (Qqk Z (Qqk Z (Qql Z Qqj))) Qqe (hA Z) Qqa Z Z Z Z Z (Qqz Z Z (Qqz Z Z (Qqy Z Qqx))) Z Z Z Z)<|Q3<|Q5<|Q4<|Q0<|Qq1 Z Z Z<|Qq1 Z Z Z ?_
 refine Qv h1 (fun x9 hx9 h1=>?_)
 refine Qk Z Z (Qq9 Z) (Qo (hp1':=[(3,.cells 188 [ZT x9,Qqq false,Qqp 0,.ptr 2 0]),(2,.cells 212 [.mp 1,Qqp 0]),(1,.mp (Jz imNil.1) imNil.2)]) (tk1':=[]) (hpF:=[(0,.cells 82 [Qqp 0,Qqo])]) (tkF:=[]) (res2:=Qh [.one (Qqq (Lib.hasPrefix (x5.dropWhile (·==32)) ([40]:List UInt8)))]) (nx2:=4) [3,2,1] Z Z (ZE ([40]:List UInt8) (x5.dropWhile (·==32)) false 0 0 imNil x9 hx9) Z Z (Qq5 Z Z (Qq5 Z Z (Qq4 Z Qq3))) Z Z (Qqk Z (Qqk Z (Qql Z Qqj))) Qqe (hA Z) Qqa Z Z Z Z Z (Qqz Z Z (Qqz Z Z (Qqy Z Qqx))) Z Z Z Z)<|Qq0 Z Z Z (Gt Z)<|Qq0 Z Z Z (Qe Z)<|Qq0 Z Z Z (Q2 Wj Z)<|QR Z Z (Qi Qch Z Z Z Z (Qq9 Z) Z)<|Q3<|Q5<|Q4<|Q4<|Q0<|Qq2 Z Z Z<|Q3<|Q5<|QH ?_
 refine G0 0 (fun (o10:Qt×Int×Qrl×Bool×Int)=>⟨[(2,.v (.one (.ptr 0 0))),(4,.v (.one (.ptr 3 0)))],[(0,.cells 82 [Qqp 0,Qqo]),(1,.mp (Jz o10.1.1) o10.1.2),(2,.cells 212 [.mp 1,Qqp o10.2.1]),(3,.cells 188 [ZT o10.2.2.1,Qqq o10.2.2.2.1,Qqp o10.2.2.2.2,.ptr 2 0])],[],4,83,[]⟩) (fun (o10:Qt×Int×Qrl×Bool×Int)=>(Option.bind (Yk ([41]:List UInt8) o10.2.2.1 o10.2.2.2.1 o10.2.2.2.2 o10.2.1 o10.1) fun (x11:(Qrl)) =>
   cond (!(Lib.hasPrefix o10.2.2.1 ([41]:List UInt8)))
     (some (x11,true,o10.2.2.2.2,o10.2.1,o10.1))
     (some (x11,o10.2.2.2.1,o10.2.2.2.2,o10.2.1,o10.1)))=some w1_) ?_ ?_
 refine Qv h1 (fun o11 hl2 h1=>?_)
 refine KZ (ZS) (fun s2=>⟨[(2,.v (.one (.ptr 0 0))),(4,.v (.one (.ptr 3 0))),(5,.v (.one (Qqq s2.1)))],[(0,.cells 82 [Qqp 0,Qqo]),(1,.mp (Jz s2.2.1.1) s2.2.1.2),(2,.cells 212 [.mp 1,Qqp s2.2.2.1]),(3,.cells 188 [ZT s2.2.2.2.1,Qqq s2.2.2.2.2.1,Qqp s2.2.2.2.2.2,.ptr 2 0])],[],4,83,[]⟩) (true,imNil,0,x9,(!(Lib.hasPrefix (x5.dropWhile (·==32)) ([40]:List UInt8))),0) o11 (J2 (Qpw Z) (hA Z) Qqa Z (Co _) Z Z Z (Qqz Z Z (Qqy Z (Qr0 Z))) Z Z) hl2 (fun s2 n2 oo2 h2 ho2=>?_)
 unfold ZS at h2
 refine Q4<|Q4 ?_
 refine Jr (fun (v12:Bool)=>⟨[(2,.v (.one (.ptr 0 0))),(4,.v (.one (.ptr 3 0))),(33,.v (.one (Qqq v12)))],m127_h2 s2,[],4,83,[]⟩) (fun (v12:Bool)=>(cond v12
     (Option.bind (JI s2.2.2.2.1 s2.2.2.2.2.1 s2.2.2.2.2.2 s2.2.2.1 s2.2.1) fun (x14:Unit) =>
   Option.bind (W4 (s2.2.2.2.1.dropWhile (·==32)) s2.2.2.2.2.1 s2.2.2.2.2.2 s2.2.2.1 s2.2.1) fun (x15:(Qrl×Bool×Int×Int×Qt)) =>
   Option.bind (JI x15.1 x15.2.1 x15.2.2.1 x15.2.2.2.1 x15.2.2.2.2) fun (x16:Unit) =>
   Option.bind (Yk ([44]:List UInt8) (x15.1.dropWhile (·==32)) x15.2.1 x15.2.2.1 x15.2.2.2.1 x15.2.2.2.2) fun (x17:(Qrl)) =>
   some (.next ((Lib.hasPrefix (x15.1.dropWhile (·==32)) ([44]:List UInt8)),x15.2.2.2.2,x15.2.2.2.1,x17,x15.2.1,x15.2.2.1)))
     (some (.done (s2.2.1,s2.2.2.1,s2.2.2.2.1,s2.2.2.2.2.1,s2.2.2.2.2.2))))=some oo2) ?_ ?_
 refine Qv h2 (fun w3_ h3 h2=>?_)
 refine Q0<|Qq1 Z Z Z<|Qq1 Z Z Z ?_
 refine J1 (d:=27) (c:=s2.1) Z (fun c13=>?_) (fun c13=>?_)
 replace h3:=QF c13 h3
 refine Qq1 Z Z Z<|Qq0 Z Z Z (Qe Z)<|Qq0 Z Z Z (Q2 Wj Z)<|Qq0 Z Z Z (Q6 Qch Z Z Z)<|Qq0 Z Z Z (Gt Z)<|Qq0 Z Z Z (Qn Z Z)<|Q3 ?_
 have e:=Qpy h3;subst e
 exact Qj (!s2.2.2.2.2.1) (J2 (Qpw Z) (hA Z) Qqa Z (Co _) Z Z Z (Qqz Z Z (Qqy Z (Qr0 Z))) Z Z) h2
 replace h3:=QG c13 h3
 refine Q8 Z Z<|Q8 Z Z<|Q8 Z Z<|Q8 Z Z<|Q8 Z Z<|Qq0 Z Z Z (Qz Z Z)<|Q3 ?_
 have e:=Qpy h3;subst e
 exact Qj false (J2 (Qpw Z) (hA Z) Qqa Z (Co _) Z Z Z (Qqz Z Z (Qqy Z (Qr0 Z))) Z Z) h2
 intro v12 h2
 refine Q5 ?_
 refine Qy (b:=v12) Z (fun c14=>?_) (fun c14=>?_)
 replace h2:=QF c14 h2
 refine QY<|Q5<|Q4<|QH<|Q4<|Q0<|Qq1 Z Z Z ?_
 refine Qv h2 (fun x15 hx15 h2=>?_)
 refine Qk Z Z (Qq9 Z) (Qo (hp1':=[(3,.cells 188 [ZT (s2.2.2.2.1.dropWhile (·==32)),Qqq s2.2.2.2.2.1,Qqp s2.2.2.2.2.2,.ptr 2 0]),(2,.cells 212 [.mp 1,Qqp s2.2.2.1]),(1,.mp (Jz s2.2.1.1) s2.2.1.2)]) (tk1':=[]) (hpF:=[(0,.cells 82 [Qqp 0,Qqo])]) (tkF:=[]) (res2:=Qh []) (nx2:=4) [3,2,1] Z Z (ZF s2.2.2.2.1 s2.2.2.2.2.1 s2.2.2.2.2.2 s2.2.2.1 s2.2.1 x15 hx15) Z Z (Qq5 Z Z (Qq5 Z Z (Qq4 Z Qq3))) Z Z (Qqk Z (Qqk Z (Qql Z Qqj))) Qqe (hA Z) Qqa Z Z Z Z Z (Qqz Z Z (Qqz Z Z (Qqy Z Qqx))) Z Z Z Z)<|Q3<|Q5<|Q4<|Q0<|Qq1 Z Z Z ?_
 refine Qv h2 (fun x16 hx16 h2=>?_)
 refine Qk Z Z (Qq9 Z) (Qo (hp1':=[(3,.cells 188 [ZT x16.1,Qqq x16.2.1,Qqp x16.2.2.1,.ptr 2 0]),(2,.cells 212 [.mp 1,Qqp x16.2.2.2.1]),(1,.mp (Jz x16.2.2.2.2.1) x16.2.2.2.2.2)]) (tk1':=[]) (hpF:=[(0,.cells 82 [Qqp 0,Qqo])]) (tkF:=[]) (res2:=Qh []) (nx2:=7) [3,2,1] Z Z (Q6f (s2.2.2.2.1.dropWhile (·==32)) s2.2.2.2.2.1 s2.2.2.2.2.2 s2.2.2.1 s2.2.1 x16 hx16) Z Z (Qq5 Z Z (Qq5 Z Z (Qq4 Z Qq3))) Z Z (Qqk Z (Qqk Z (Qql Z Qqj))) Qqe (hA Z) Qqa Z Z Z Z Z (Qqz Z Z (Qqz Z Z (Qqy Z Qqx))) Z Z Z Z)<|Q3<|Q5<|Q0<|Qq1 Z Z Z ?_
 refine Qv h2 (fun x17 hx17 h2=>?_)
 refine Qk Z Z (Qq9 Z) (Qo (hp1':=[(3,.cells 188 [ZT (x16.1.dropWhile (·==32)),Qqq x16.2.1,Qqp x16.2.2.1,.ptr 2 0]),(2,.cells 212 [.mp 1,Qqp x16.2.2.2.1]),(1,.mp (Jz x16.2.2.2.2.1) x16.2.2.2.2.2)]) (tk1':=[]) (hpF:=[(0,.cells 82 [Qqp 0,Qqo])]) (tkF:=[]) (res2:=Qh []) (nx2:=7) [3,2,1] Z Z (ZF x16.1 x16.2.1 x16.2.2.1 x16.2.2.2.1 x16.2.2.2.2 x17 hx17) Z Z (Qq5 Z Z (Qq5 Z Z (Qq4 Z Qq3))) Z Z (Qqk Z (Qqk Z (Qql Z Qqj))) Qqe (hA Z) Qqa Z Z Z Z Z (Qqz Z Z (Qqz Z Z (Qqy Z Qqx))) Z Z Z Z)<|Q3<|Ji<|Q5<|Q0<|Qq1 Z Z Z ?_
 refine Qv h2 (fun x18 hx18 h2=>?_)
 refine Qk Z Z (Qq9 Z) (Qo (hp1':=[(3,.cells 188 [ZT x18,Qqq x16.2.1,Qqp x16.2.2.1,.ptr 2 0]),(2,.cells 212 [.mp 1,Qqp x16.2.2.2.1]),(1,.mp (Jz x16.2.2.2.2.1) x16.2.2.2.2.2)]) (tk1':=[]) (hpF:=[(0,.cells 82 [Qqp 0,Qqo])]) (tkF:=[]) (res2:=Qh [.one (Qqq (Lib.hasPrefix (x16.1.dropWhile (·==32)) ([44]:List UInt8)))]) (nx2:=7) [3,2,1] Z Z (ZE ([44]:List UInt8) (x16.1.dropWhile (·==32)) x16.2.1 x16.2.2.1 x16.2.2.2.1 x16.2.2.2.2 x18 hx18) Z Z (Qq5 Z Z (Qq5 Z Z (Qq4 Z Qq3))) Z Z (Qqk Z (Qqk Z (Qql Z Qqj))) Qqe (hA Z) Qqa Z Z Z Z Z (Qqz Z Z (Qqz Z Z (Qqy Z Qqx))) Z Z Z Z)<|Qq2 Z Z Z<|Q3 ?_
 have e:=Qpy h2;subst e
 refine KX ((Lib.hasPrefix (x16.1.dropWhile (·==32)) ([44]:List UInt8)),x16.2.2.2.2,x16.2.2.2.1,x18,x16.2.1,x16.2.2.1) (J2 (Qpw Z) (hA Z) Qqa Z (Co _) Z Z Z (Qqz Z Z (Qqy Z (Qr0 Z))) Z Z) ho2
 replace h2:=QG c14 h2
 refine Gj<|JP<|JP ?_
 have e:=Qpy h2;subst e
 have e_:_=_:=ho2
 subst e_
 exact KY (s2.2.1,s2.2.2.1,s2.2.2.2.1,s2.2.2.2.2.1,s2.2.2.2.2.2) (J2 (Qpw Z) (hA Z) Qqa Z (Co _) Z Z Z (Qqz Z Z (Qqy Z (Qr0 Z))) Z Z) h1
 intro o10 h1
 refine Z6<|Q5<|Q4<|Q0<|Qq1 Z Z Z ?_
 refine Qv h1 (fun x19 hx19 h1=>?_)
 refine Qk Z Z (Qq9 Z) (Qo (hp1':=[(3,.cells 188 [ZT x19,Qqq o10.2.2.2.1,Qqp o10.2.2.2.2,.ptr 2 0]),(2,.cells 212 [.mp 1,Qqp o10.2.1]),(1,.mp (Jz o10.1.1) o10.1.2)]) (tk1':=[]) (hpF:=[(0,.cells 82 [Qqp 0,Qqo])]) (tkF:=[]) (res2:=Qh [.one (Qqq (Lib.hasPrefix o10.2.2.1 ([41]:List UInt8)))]) (nx2:=4) [3,2,1] Z Z (ZE ([41]:List UInt8) o10.2.2.1 o10.2.2.2.1 o10.2.2.2.2 o10.2.1 o10.1 x19 hx19) Z Z (Qq5 Z Z (Qq5 Z Z (Qq4 Z Qq3))) Z Z (Qqk Z (Qqk Z (Qql Z Qqj))) Qqe (hA Z) Qqa Z Z Z Z Z (Qqz Z Z (Qqz Z Z (Qqy Z Qqx))) Z Z Z Z)<|Qq0 Z Z Z (Gt Z)<|Q3<|Q5 ?_
 refine Qy (b:=(!(Lib.hasPrefix o10.2.2.1 ([41]:List UInt8)))) Z (fun c20=>?_) (fun c20=>?_)
 replace h1:=QF c20 h1
 refine Q0<|Qq1 Z Z Z<|Qq0 Z Z Z (Qe Z)<|Qq0 Z Z Z (Q2 Wj Z)<|QR Z Z (Qi Qch Z Z Z Z (Qq9 Z) Z)<|Q3 ?_
 have e:=Qpy h1;subst e
 exact Qj (x19,true,o10.2.2.2.2,o10.2.1,o10.1) (J2 (Qpw Z) (hA Z) Qqa Z (Co _) Z Z Z (Qqz Z Z (Qqy Z (Qr0 Z))) Z Z) h0
 replace h1:=QG c20 h1
 refine QY ?_
 have e:=Qpy h1;subst e
 exact Qj (x19,o10.2.2.2.1,o10.2.2.2.2,o10.2.1,o10.1) (J2 (Qpw Z) (hA Z) Qqa Z (Co _) Z Z Z (Qqz Z Z (Qqy Z (Qr0 Z))) Z Z) h0
 replace h1:=QG c7 h1
 refine Q0<|Qq1 Z Z Z ?_
 refine Qv h1 (fun x21 hx21 h1=>?_)
 refine Qk Z Z (Qq9 Z) (Qo (hp1':=[(3,.cells 188 [ZT x21.1,Qqq x21.2.1,Qqp x21.2.2.1,.ptr 2 0]),(2,.cells 212 [.mp 1,Qqp x21.2.2.2.1]),(1,.mp (Jz x21.2.2.2.2.1) x21.2.2.2.2.2)]) (tk1':=[]) (hpF:=[(0,.cells 82 [Qqp 0,Qqo])]) (tkF:=[]) (res2:=Qh []) (nx2:=7) [3,2,1] Z Z (Q6f x5 false 0 0 imNil x21 hx21) Z Z (Qq5 Z Z (Qq5 Z Z (Qq4 Z Qq3))) Z Z (Qqk Z (Qqk Z (Qql Z Qqj))) Qqe (hA Z) Qqa Z Z Z Z Z (Qqz Z Z (Qqz Z Z (Qqy Z Qqx))) Z Z Z Z)<|Q3 ?_
 have e:=Qpy h1;subst e
 exact Qj (x21.1,x21.2.1,x21.2.2.1,x21.2.2.2.1,x21.2.2.2.2) (J2 (Qpw Z) (hA Z) Qqa Z (Co _) Z Z Z (Qqz Z Z (Qqy Z (Qr0 Z))) Z Z) h0
 intro v6 h0
 refine Q5<|Q4<|Q0<|Qq1 Z Z Z ?_
 refine Qv h0 (fun x22 hx22 h0=>?_)
 refine Qk Z Z (Qq9 Z) (Qo (hp1':=[(3,.cells 188 [ZT (v6.1.dropWhile (·==32)),Qqq v6.2.1,Qqp v6.2.2.1,.ptr 2 0]),(2,.cells 212 [.mp 1,Qqp v6.2.2.2.1]),(1,.mp (Jz v6.2.2.2.2.1) v6.2.2.2.2.2)]) (tk1':=[]) (hpF:=[(0,.cells 82 [Qqp 0,Qqo])]) (tkF:=[]) (res2:=Qh []) (nx2:=4) [3,2,1] Z Z (ZF v6.1 v6.2.1 v6.2.2.1 v6.2.2.2.1 v6.2.2.2.2 x22 hx22) Z Z (Qq5 Z Z (Qq5 Z Z (Qq4 Z Qq3))) Z Z (Qqk Z (Qqk Z (Qql Z Qqj))) Qqe (hA Z) Qqa Z Z Z Z Z (Qqz Z Z (Qqz Z Z (Qqy Z Qqx))) Z Z Z Z)<|Q3<|Q5<|Q4<|QH<|Q4 ?_
 refine Jr (fun (v23:Bool)=>⟨[(2,.v (.one (.ptr 0 0))),(4,.v (.one (.ptr 3 0))),(52,.v (.one (Qqq v23)))],Qfq v6,[],4,83,[]⟩) (fun (v23:Bool)=>(cond v23
     (some ((⟨0,([]:List Qrf)⟩:Lvl),4))
     (cond (v6.2.2.1 != 0)
     (some ((⟨0,([]:List Qrf)⟩:Lvl),v6.2.2.1))
     (Option.bind (W3 v6.2.2.2.1 v6.2.2.2.2) fun (x26:(Int×Int×(List Qrf))) =>
   some ((⟨x26.2.1,x26.2.2⟩:Lvl),x26.1))))=some r) ?_ ?_
 refine Qv h0 (fun w1_ h1 h0=>?_)
 refine Q0<|Qq1 Z Z Z<|Qq0 Z Z Z (Qe Z)<|Qq0 Z Z Z (Q2 Wj Z)<|Qq0 Z Z Z (Q6 Qch Z Z Z)<|Qq1 Z Z Z ?_
 refine J1 (d:=57) (c:=v6.2.1) Z (fun c24=>?_) (fun c24=>?_)
 replace h1:=QF c24 h1
 refine Q8 Z Z<|Q8 Z Z<|Q8 Z Z<|Q8 Z Z<|Q8 Z Z<|Qq0 Z Z Z (Qn Z Z)<|Qq2 Z Z Z<|Q3 ?_
 have e:=Qpy h1;subst e
 exact Qj true (J2 (Qpw Z) (hA Z) Qqa Z (Co _) Z Z Z (Qqz Z Z (Qqy Z (Qr0 Z))) Z Z) h0
 replace h1:=QG c24 h1
 refine Qq1 Z Z Z<|Qq0 Z Z Z (Qe Z)<|Qq0 Z Z Z (Q2 Yx Z)<|Qq0 Z Z Z (Q6 Q0q Z Z Z)<|Qq0 Z Z Z (Qkv Z Z)<|Qq0 Z Z Z (Qz Z Z)<|Qq2 Z Z Z<|Q3 ?_
 have e:=Qpy h1;subst e
 exact Qj (!((v6.1.dropWhile (·==32))==([]:List UInt8))) (J2 (Qpw Z) (hA Z) Qqa Z (Co _) Z Z Z (Qqz Z Z (Qqy Z (Qr0 Z))) Z Z) h0
 intro v23 h0
 refine Q5 ?_
 refine Qy (b:=v23) Z (fun c25=>?_) (fun c25=>?_)
 replace h0:=QF c25 h0
 refine Q4<|Q0<|Qq0 Z Z Z (YJ XD Z )<|QR Z Z (Qi JE Z Z Z Z (Qq9 Z) Z)<|Qq2 Z Z Z<|Q3<|Q5<|QU ?_
 have e:=Qpy h0;subst e
 exact Zr (fun _ _ h=>h) Z (Zs JE Z Z Z Z (Jk Z .nil)) (.cons (.agg (.cons (.d _) (.cons (.nil _) .nil))) (.cons (.one (.d _)) .nil))
 replace h0:=QG c25 h0
 refine Q4<|Q0<|Qq1 Z Z Z<|Qq0 Z Z Z (Qe Z)<|Qq0 Z Z Z (Q2 Wi Z)<|Qq0 Z Z Z (Q6 GU Z Z Z)<|Qq0 Z Z Z (Qb Z Z Z)<|Qq2 Z Z Z<|Q3<|Q5 ?_
 refine Qy (b:=(v6.2.2.1 != 0)) Z (fun c26=>?_) (fun c26=>?_)
 replace h0:=QF c26 h0
 refine Q4 ?_
 refine YG [5] [(1,1),(2,1),(3,1),(4,1)] mixed (by kernel_rfl) (by kernel_rfl) (by kernel_rfl) ?_
 refine RunA.rd Z Z Z (Qa (YJ XD Z )) Z<|RunA.rd Z Z Z (Qa (YI Z)) Z<|RunA.rd Z Z Z (Qa (Qe Z)) Z<|RunA.rd Z Z Z (Qa (Q2 Wi Z)) Z<|RunA.rd Z Z Z (Qa (Q6 GU Z Z Z)) Z<|RunA.eff Z Z Z (Qi JE Z Z Z Z (Qq9 Z) Z) Z<|RunA.rd Z Z Z (Qa (Q0t Z)) Z ?_
 refine RunA.nil ⟨?ex,_,_,Z,?_⟩
 case ex=>exact ⟨⟨_,rfl,_,_,rfl,rfl,rfl,.inl ⟨rfl,_,Qa (YI rfl),rfl⟩⟩,⟨_,rfl,_,_,rfl,rfl,rfl,.inl ⟨rfl,_,Qa (Qe rfl),rfl⟩⟩,⟨_,rfl,_,_,rfl,rfl,rfl,.inl ⟨rfl,_,Qa (Q2 Wi rfl),rfl⟩⟩,⟨_,rfl,_,_,rfl,rfl,rfl,.inl ⟨rfl,_,Qa (Q6 GU rfl rfl rfl),rfl⟩⟩,trivial⟩
 refine Xq (st':=⟨[(2,.v (.one (.ptr 0 0))),(3,.v (.one (Qqp v6.2.2.1)))],Qfq v6,[],4,83,[]⟩) (J2 (Qpw Z) (hA Z) Qqa Z (Co _) Z Z Z (Qqz Z Z (Qqy Z (Qr0 Z))) Z Z)<|Q5<|QU ?_
 have e:=Qpy h0;subst e
 exact Zr (fun _ _ h=>h) Z (Zs JE Z Z Z Z (Jk Z .nil)) (.cons (.agg (.cons (.d _) (.cons (.nil _) .nil))) (.cons (.one (.d _)) .nil))
 replace h0:=QG c26 h0
 refine QY<|Ji<|Q5<|Q4<|Q0<|Qq1 Z Z Z<|Qq0 Z Z Z (Qe Z)<|Qq0 Z Z Z (Q2 Qbt Z)<|Qq0 Z Z Z (Q6 Qkn Z Z Z) ?_
 refine Qv h0 (fun x27 hx27 h0=>?_)
 refine Qk Z Z (Qq9 Z) (Qo (hp1':=[(2,.cells 212 [.mp 1,Qqp v6.2.2.2.1]),(1,.mp (Jz v6.2.2.2.2.1) v6.2.2.2.2.2),(4,.cells 82 [Qqp x27.2.1,Qqn x27.2.2])]) (tk1':=[]) (hpF:=[(0,.cells 82 [Qqp 0,Qqo]),(3,Qfr v6)]) (tkF:=[]) (res2:=Qh [.agg [Qqp x27.2.1,Qqn x27.2.2],.one (Qqp x27.1)]) (nx2:=10) [2,1] Z Z (m153f6_ok v6.2.2.2.1 v6.2.2.2.2 x27 hx27) Z Z (Qq5 Z Z (Qq4 Z (Qq5 Z Z Qq3))) Z Z (Qqk Z (Qql Z Qqj)) Qqe (hA Z) Qqa Z Z Z Z Z (Qqz Z Z (Qqy Z Qqx)) Z Z Z Z)<|Qq0 Z Z Z (J8 Z Z)<|Qq0 Z Z Z (J8 Z Z)<|QR Z Z (Qi JE Z Z Z Z (Qq9 Z) Z)<|Qq2 Z Z Z<|Q3<|Q5<|QU ?_
 have e:=Qpy h0;subst e
 exact Zr (fun _ _ h=>h) Z (Zs JE Z Z Z Z (Jk Z .nil)) (.cons (.agg (.cons (.d _) (.cons (.d _) .nil))) (.cons (.one (.d _)) .nil))
def k127:KF UV:=⟨[.str],[.stc .t82,.int .i64],fun v=>Db v⟩
theorem k127_ok:Yb DV W0 Tryz.prog 127 k127:=⟨rfl,fun v r h=>DJ (Eq.mp (show _=Fun Tryz.prog 127 (QM DV k127.args v) (Qh (QM DV k127.res r)) from by kernel_rfl) (m127_ok v r h))⟩
end
end Go.Proofs.YtjcfppnjamjjhaaGreatDoor
