/- Part 4 of the proof: rules, mirrors and plain laws. The card of TextOffsets is proved here: for all strings the law returns true, and the arguments read behind the call as they did before; condition: the listed package-level variables hold what the text of the program lays (tied). -/
import Derived.Test.YtjcfppnjamjjhaaGreatDoorK53
import Derived.Shelf.Strings.Builder1
import Derived.Lib.LaidTab
import Derived.Lib.ItoaNum
import Derived.Lib.AtoiErrMem
import Derived.Shelf.SlIterI.Sorted
import Derived.Shelf.SlIterI.Collect
import Derived.Shelf.SortM.Plain
import Derived.Shelf.SortM.SortNone
import Derived.Shelf.Strings.Trim
import Derived.Shelf.Small.Wraps
import Derived.Shelf.Small.Strs
import Derived.Ground.NamesProg
import Derived.Ground.GgzProg
import Derived.Ground.SlgmProg
import Derived.Test.YtjcfppnjamjjhaaGreatDoorProg
set_option maxHeartbeats 2000000
set_option maxRecDepth 100000
set_option linter.unusedSimpArgs false
set_option linter.unusedVariables false
set_option linter.unusedSectionVars false
namespace Go.Proofs.YtjcfppnjamjjhaaGreatDoor
noncomputable section
open Go.RowKit
def OutM.ren (ρ:Nat→Nat) (hpF:List (Nat×HB)) (tkF:List (Nat×Option Tok)) (nx2:Nat):OutM→OutM
 | .val x m=>.val (x.ren ρ) ⟨Jq ρ m.hp++hpF,JS ρ m.tk++tkF,nx2⟩
 | .die v m=>.die v ⟨Jq ρ m.hp++hpF,JS ρ m.tk++tkF,nx2⟩
def OutM.m:OutM→Mem
 | .val _ m=>m
 | .die _ m=>m
theorem CallO.ren {W:Wd} {P:Program} {f:FuncId} {args0:List AV} {hp0 hpF hp:List (Nat×HB)} {tk0 tkF tk:List (Nat×Option Tok)} {nx0 nx2 n:Nat} {o:OutM} (rs:List Nat) (hc:CallO W P f args0 ⟨hp0,tk0,nx0⟩ o)
  (hh:hpLe hp (Jq (Kf rs n) hp0)) (ht:tkLe tk (JS (Kf rs n) tk0)) (hhF:hpLe hp hpF) (htF:tkLe tk tkF) (hl:rs.length=nx0) (hnd:rs.Nodup) (hlt:∀ j∈rs,j < n) (d1:∀ i B,Qpt hpF i=some B→i∉rs) (d2:∀ i T,Qpt tkF i=some (some T)→i∉rs)
  (b0:hpBelow nx0 hp0) (c0:tkBelow nx0 tk0) (ba:∀ y∈args0,y.below nx0) (hle:nx0≤o.m.nx) (hn:o.m.nx+n=nx2+nx0) :
  CallO W P f (args0.map (AV.ren (Kf rs n))) ⟨hp,tk,n⟩ (o.ren (Kf rs n) hpF tkF nx2):=by
 have hen:Qc P f:=by cases o <;> exact hc.1
 have inj:∀ i j,Kf rs n i=Kf rs n j→i=j:=fun i j h=>Qel hnd hlt h
 refine YG hen fun E V w vs hP hWp H hnx hargs=>?_
 dsimp only at H hnx
 have h0:=(H.forgetLe hh ht).part inj b0 c0
 have har:argsRel (pull (Kf rs n) V nx0) w args0 vs:=by
  obtain ⟨h1,h2⟩:=hargs
  refine ⟨by simpa using h1,fun i y hy=>?_⟩
  obtain ⟨u,hu,hyu⟩:=h2 i (y.ren _) (by rw [Cl,hy];rfl)
  exact ⟨u,hu,hyu.pull (ba y (Cs hy))⟩
 have turn:∀ {V1:Vu} {hp1:List (Nat×HB)} {tk1:List (Nat×Option Tok)} {nx1:Nat} {w':World},nx0≤nx1→nx1+n=nx2+nx0→V1.nx=nx1→HRel ⟨E.P,w,Xy V (Jq (Kf rs n) hp0) (JS (Kf rs n) tk0),pull (Kf rs n) V nx0⟩ V1 hp1 tk1 w'→HRel E (Zw (Kf rs n) V V1 nx2) (Jq (Kf rs n) hp1++hpF) (JS (Kf rs n) tk1++tkF) w'∧V.Le (Zw (Kf rs n) V V1 nx2) w w'∧Via (Kf rs n) V1 (Zw (Kf rs n) V V1 nx2):=fun hle hn hn1 Hr =>
  H.turn (n:=nx2) inj hh ht hhF htF (fun i hi=>by rw [hnx];exact hlt _ (G8 (by omega))) (fun i hi=>by rw [Ug (by omega),hnx,hl])
   (fun i B hi k hk e=>d1 i B hi (by rw [← e];exact G8 (by omega))) (fun i T hi k hk e=>d2 i T hi (by rw [← e];exact G8 (by omega))) b0 c0 (by rw [hn1,hnx];exact hn) (by rw [hn1];exact hle) Hr
 cases o with
 | val x m =>
  refine (hc.2 ⟨E.P,w,Xy V _ _,pull (Kf rs n) V nx0⟩ (pull (Kf rs n) V nx0) w vs hP hWp h0 Z har).mono ?_
  rintro e w' ⟨v,V1,rfl,H1,hn1,L,hres⟩
  obtain ⟨H2,L2,L3⟩:=turn hle hn hn1 H1
  exact ⟨v,_,Z,H2,Z,L2,hres.via L3⟩
 | die pv m =>
  refine (hc.2 ⟨E.P,w,Xy V _ _,pull (Kf rs n) V nx0⟩ (pull (Kf rs n) V nx0) w vs hP hWp h0 Z har).mono ?_
  rintro e w' ⟨V1,rfl,H1,hn1,L⟩
  obtain ⟨H2,L2,L3⟩:=turn hle hn hn1 H1
  exact ⟨_,Z,H2,Z,L2⟩
theorem CallO.pre {W:Wd} {P:Program} {f:FuncId} {args:List AV} {m m0:Mem} {o:OutM} (hh:∀ i B,Qpt m0.hp i=some B→∃ A,Qpt m.hp i=some A∧∀ V w o,A.rel V w o→B.rel V w o) (ht:∀ i T,Qpt m0.tk i=some (some T)→Qpt m.tk i=some (some T)) (hn:m.nx=m0.nx) (hc:CallO W P f args m0 o):CallO W P f args m o:=by
 have hen:Qc P f:=by cases o <;> exact hc.1
 refine YG hen fun E V w vs hP hWp H hnx hargs=>?_
 cases o with
 | val x m'=>exact hc.2 E V w vs hP hWp (H.weak hh ht) (hnx.trans hn) hargs
 | die v m'=>exact hc.2 E V w vs hP hWp (H.weak hh ht) (hnx.trans hn) hargs
def OutM.with (m':Mem):OutM→OutM
 | .val x _=>.val x m'
 | .die v _=>.die v m'
theorem CallO.post {W:Wd} {P:Program} {f:FuncId} {args:List AV} {m m':Mem} {o:OutM} (hh:∀ i B,Qpt m'.hp i=some B→∃ A,Qpt o.m.hp i=some A∧∀ V w o,A.rel V w o→B.rel V w o) (ht:∀ i T,Qpt m'.tk i=some (some T)→Qpt o.m.tk i=some (some T)) (hn:m'.nx=o.m.nx) (hc:CallO W P f args m o):CallO W P f args m (o.with m'):=by
 have hen:Qc P f:=by cases o <;> exact hc.1
 refine YG hen fun E V w vs hP hWp H hnx hargs=>?_
 cases o with
 | val x m1 =>
  refine (hc.2 E V w vs hP hWp H hnx hargs).mono ?_
  rintro e w' ⟨v,V1,rfl,H1,hn1,L,hres⟩
  exact ⟨v,V1,Z,H1.weak hh ht,hn1.trans hn.symm,L,hres⟩
 | die v m1 =>
  refine (hc.2 E V w vs hP hWp H hnx hargs).mono ?_
  rintro e w' ⟨V1,rfl,H1,hn1,L⟩
  exact ⟨V1,Z,H1.weak hh ht,hn1.trans hn.symm,L⟩
theorem CallO.args {W:Wd} {P:Program} {f:FuncId} {args args':List AV} {m:Mem} {o:OutM} (ha:∀ V w vs,argsRel V w args' vs→argsRel V w args vs) (hc:CallO W P f args m o):CallO W P f args' m o:=by
 have hen:Qc P f:=by cases o <;> exact hc.1
 refine YG hen fun E V w vs hP hWp H hnx hargs=>?_
 cases o with
 | val x m'=>exact hc.2 E V w vs hP hWp H hnx (ha V w vs hargs)
 | die v m'=>exact hc.2 E V w vs hP hWp H hnx (ha V w vs hargs)
end
noncomputable section
open Go.RowKit
section
variable {U:Univ} (D:Codec U)
variable (U) in
structure KF where
 args:List (AK U)
 res:List (AK U)
 m:tup args→Option (tup res)
def Qha (k:AK U) (x:TAV U):Option k.Ty:=cond (JU k&&Qax k x) (Qds D [] k x) none
def Qdr:(ks:List (AK U))→List (TAV U)→Option (tup ks)
 | [],[]=>some ()
 | [k],[x]=>Qha D k x
 | k::k2::r,x::xs=>match Qha D k x with
  | some a=>match Qdr (k2::r) xs with
   | some b=>some (a,b)
   | none=>none
  | none=>none
 | _,_=>none
def Qav (rk:List (AK U)) (r:tup rk):TTV U:=match Gd rk r with
 | [x]=>.v x
 | xs=>.tup xs
def Qn5 (tb:List (Nat×KF U)) (f:FuncId) (args:List (TAV U)):Option (KR U):=match Qpt tb f with
 | some kf=>match Qdr D kf.args args with
  | some v=>some ⟨tup kf.res,kf.m v,Qav kf.res⟩
  | none=>none
 | none=>none
def Yy (W:Wd) (P:Program) (f:Nat) (kf:KF U):Prop:=kf.res.all JU=true∧∀ v r,kf.m v=some r→FunW W P f (QN D kf.args v) (Qh (QN D kf.res r))
variable {D}
theorem XI {tk:List (Nat×TTok U)}:∀ {xs ys:List (It U)},JF [] xs=some ys→JF tk xs=some ys
 | [],ys,h=>h
 | .grp t x::r,ys,h=>by
  unfold JF at h ⊢
  split at h
  ·rename_i zs hz;rw [XI hz];exact h
  ·cases h
 | .one x::r,ys,h=>by
  unfold JF at h ⊢
  split at h
  ·rename_i y zs hy hz
   rw [XI hz]
   have e:Ke tk x=some y:=by
    cases x with
    | c x=>exact hy
    | app i ver=>cases hy
    | ptr i off=>cases hy
    | pel t x off=>cases hy
    | fn f caps=>cases hy
    | raw x=>cases hy
   rw [e];exact h
  ·cases h
theorem bldT_nil {tk:List (Nat×TTok U)} {t:U.T} {xs:List (It U)} {x:U.R t} (h:Q4u D [] t xs=some x):Q4u D tk t xs=some x:=by
 have key:∀ L:List (It U),(match JF [] L with
   | some ys=>D.bld t ys
   | none=>none)=some x→(match JF tk L with
   | some ys=>D.bld t ys
   | none=>none)=some x:=by
  intro L hL
  split at hL
  ·rename_i ys hy;rw [XI hy];exact hL
  ·cases hL
 cases xs with
 | nil=>exact key [] h
 | cons a r =>
  cases r with
  | nil =>
   cases a with
   | grp t' y=>exact h
   | one y=>exact key [.one y] h
  | cons b r=>cases a <;> exact key _ h
theorem lsub_of {xs:List CA} {cs:List C} (h:CSubs xs cs):LSub xs (cs.map .d):=by
 induction h with
 | nil=>exact .nil
 | cons h t ih=>exact .cons h ih
theorem Q2i (hD:D.OK) (tk:List (Nat×TTok U)) (t:U.T) (x:U.R t):Je D tk [It.grp t x]=((U.E t).enc x).map .d:=by
 unfold Je
 rw [KO,Q74 hD]
theorem D7 {tk:List (Nat×TTok U)} {x:TAV U} {c:C} (h:∃ y,x=.one y∧CSub (y.er tk) c):ASub (x.er D tk) (.one (.d c)):=by
 obtain ⟨y,rfl,h⟩:=h
 exact .one h
theorem sl_csub {tk:List (Nat×TTok U)} {t:U.T} {x:TAV U} {l:List (U.R t)} (h:G2 [] t (.v x)=some l):∃ y,x=.one y∧CSub (y.er tk) (.sl (U.E t).sz ((U.E t).encL l)):=by
 cases x with
 | agg xs=>cases h
 | one y =>
  refine ⟨y,Z,?_⟩
  cases y with
  | c z =>
   cases z with
   | v w =>
    unfold G2 at h
    split at h
    ·rename_i heq;cases heq
    ·rename_i heq
     cases heq
     cases h
     have e:(U.E t).encL []=[]:=(U.E t).nil
     rw [e]
     exact .nil _
    ·rename_i heq;cases heq
    ·cases h
   | str s=>cases h
   | sl t' l' =>
    have h':Ge t' t l'=some l:=h
    obtain ⟨e,rfl⟩:=YQ h'
    subst e
    exact .d _
  | ptr i off=>cases h
  | pel t x off=>cases h
  | fn f caps=>cases h
  | app i ver=>cases h
  | raw x=>cases h
theorem Q7a (hD:D.OK) {k:AK U} {x:TAV U} {v:k.Ty} (h:Qha D k x=some v) (tk:List (Nat×TTok U)):ASub (x.er D tk) ((GI k v 0).er D []):=by
 unfold Qha at h
 cases hc:(JU k&&Qax k x) with
 | false=>rw [hc] at h;cases h
 | true =>
  rw [hc,C7] at h
  obtain ⟨b1,b2⟩:=C0.1 hc
  cases k with
  | app i e t=>cases b1
  | ptr i o=>cases b1
  | any=>cases b1
  | int k =>
   refine D7 ?_
   replace h:Q4o k x=some v:=h
   unfold Q4o at h
   split at h
   ·rename_i k0 a
    cases hk:decide (k0=k) with
    | false=>rw [hk] at h;cases h
    | true =>
     rw [hk] at h;cases h
     have e:=CG hk
     subst e
     exact ⟨_,Z,CSub.d _⟩
   ·cases h
  | bool =>
   refine D7 ?_
   replace h:Ds x=some v:=h
   unfold Ds at h
   split at h
   ·cases h;exact ⟨_,rfl,.d _⟩
   ·cases h
  | str =>
   refine D7 ?_
   replace h:Q4n x=some v:=h
   unfold Q4n at h
   split at h
   ·cases h;exact ⟨_,rfl,.d _⟩
   ·cases h
  | sl t =>
   exact D7 (sl_csub h)
  | stc t =>
   cases x with
   | one y=>cases b2
   | agg xs =>
    have key:∀ (w:U.R t),Q4u D [] t xs=some w→ASub (AV.agg (Je D tk xs)) (AV.agg (Je D [] [It.grp t w])):=by
     intro w hw
     rw [Q2i hD]
     exact .agg (lsub_of (Q2j hD (bldT_nil (tk:=tk) hw)))
    exact key v h
theorem Q0i (hD:D.OK):∀ {ks:List (AK U)} {xs:List (TAV U)} {v:tup ks},Qdr D ks xs=some v→∀ tk,ASubL (xs.map (TAV.er D tk)) (QN D ks v)
 | [],[],v,h,tk=>.nil
 | [],x::xs,v,h,tk=>by cases h
 | [k],[],v,h,tk=>by cases h
 | [k],[x],v,h,tk=>.cons (Q7a hD h tk) .nil
 | [k],x::y::xs,v,h,tk=>by cases h
 | k::k2::r,[],v,h,tk=>by cases h
 | k::k2::r,x::xs,v,h,tk=>by
  have h2:(match Qha D k x with
   | some a=>match Qdr D (k2::r) xs with
    | some b=>(some (a,b):Option (k.Ty×tup (k2::r)))
    | none=>none
   | none=>none)=some v:=h
  cases ha:Qha D k x with
  | none=>rw [ha] at h2;cases h2
  | some a =>
   rw [ha] at h2
   dsimp only at h2
   cases hb:Qdr D (k2::r) xs with
   | none=>rw [hb] at h2;cases h2
   | some b =>
    rw [hb] at h2;cases h2
    exact .cons (Q7a hD ha tk) (Q0i hD hb tk)
theorem UC (hD:D.OK) (tk:List (Nat×TTok U)):∀ {rk:List (AK U)} (r:tup rk),rk.all JU=true→(Gd rk r).map (TAV.er D tk)=QN D rk r
 | [],r,h=>rfl
 | [k],r,h=>by
  have hk:=(C0.1 (show (JU k&&true)=true from h)).1
  show [(GI k r 0).er D tk]=[(GI k r 0).er D []]
  rw [Q77 hD hk r tk []]
 | k::k2::rk,r,h=>by
  obtain ⟨hk,hr⟩:=C0.1 (show (JU k&&(k2::rk).all JU)=true from h)
  have ih:=UC hD tk (rk:=k2::rk) r.2 hr
  show (GI k r.1 0).er D tk::(Gd (k2::rk) r.2).map _=(GI k r.1 0).er D []::QN D (k2::rk) r.2
  rw [Q77 hD hk r.1 tk [],ih]
theorem Qf0 (hD:D.OK) (tk:List (Nat×TTok U)) {rk:List (AK U)} (r:tup rk) (h:rk.all JU=true):(Qav rk r).er D tk=Qh (QN D rk r):=by
 have e:=UC hD tk r h
 rw [← e]
 unfold Qav
 split
 ·rename_i x hx;rw [hx];rfl
 ·rename_i xs hne
  show TV.tup ((Gd rk r).map _)=_
  cases hl:Gd rk r with
  | nil=>rfl
  | cons a l =>
   cases l with
   | nil=>exact (hne a hl).elim
   | cons b l=>rfl
theorem QG (hD:D.OK) {P:Program} {tb:List (Nat×KF U)} {W:Wd} (h:AllT (Yy D W P) tb):Q0s W D P (Qn5 D tb):=by
 intro f args kr a hk ho
 unfold Qn5 at hk
 split at hk
 ·rename_i kf hf
  split at hk
  ·rename_i v hv;cases hk
   obtain ⟨h1,h2⟩:=h.get hf
   refine ⟨QN D kf.args v,Q0i hD hv,fun tk=>?_⟩
   show FunW W P f _ ((Qav kf.res a).er D tk)
   rw [Qf0 hD tk a h1]
   exact h2 v a ho
  ·cases hk
 ·cases hk
def Qii:Qqn U:=fun _ _ _=>none
theorem Q8f {W:Wd} {P:Program} (m:TMe U):YOK W D P (Qii (U:=U)) m:=fun L args m xo _ h=>by cases h
def noX:Qqo U:=fun _ _ _ _=>none
theorem Y5 {W:Wd} {P:Program}:WN W D P (noX (U:=U)):=fun Y c args m xo _ h=>by cases h
section
variable (D) (C:TCfg U) (K:FuncId→List (TAV U)→Option (KR U)) (X:Qqo U)
def Qhu (fn:Func) (H:Hints U) (args:List (TAV U)) (rk:List (AK U)):Option (tup rk):=match Q0j fn.body H with
 | none=>none
 | some (_,tc)=>cond (Nat.ble args.length fn.ntmps) (JJ D C K X tc Qii none (R:=tup rk) (fun s=>Gs X Qii s none (fun s=>Q9h D C s rk fn.results.toList) fun _ _=>none) (fun v s=>Gs X Qii s (some v) (fun s=>Q9h D C s rk fn.results.toList) fun _ _=>none) ⟨JD 0 args,⟨[],[],0⟩,fn.ntmps,[]⟩ some fun e s=>match e with
   | .normal=>Gs X Qii s none (fun s=>Q9h D C s rk fn.results.toList) fun _ _=>none
   | _=>none) none
end
def Qmt (D:Codec U) (rk:List (AK U)) (r:tup rk) (o:OutM):Prop:=∃ xs m',o=.val (Qh xs) m'∧xs.length=(QN D rk r).length∧∀ (i:Nat) (y:AV),(QN D rk r)[i]?=some y→∃ x,xs[i]?=some x∧∀ V w v,x.rel V w v→y.rel (Yn V.S) w v
theorem FunW.of_p {W:Wd} {P:Program} {f:FuncId} {args:List AV} {rk:List (AK U)} {r:tup rk} (h:CallP W P f args mem0 (Qmt D rk r)):FunW W P f args (Qh (QN D rk r)):=by
 refine ⟨h.1,fun S w vs hS hWp ha=>(h.2 (Qkk P w S) (Yn S) w vs Z hWp (Qg3 hS) Z ha).mono ?_⟩
 rintro e w' ⟨o,⟨xs,m',rfl,hl,hs⟩,v,V',rfl,H,hn,L,hv⟩
 refine ⟨v,V'.S,Z,H.ext,H.le0.S,fun b o h=>⟨?_,H.sz b o h⟩,Qad hl hs hv⟩
 rcases H.sub b o h with h1 | h1 | h1
 ·exact .inl h1
 ·exact .inr h1
 ·exact h1.elim
theorem Q4l:∀ {rk:List (AK U)} {v:tup rk} {x:TAV U},x∈Gd rk v→∃ k∈rk,∃ a:k.Ty,x=GI k a 0
 | [],v,x,h=>by cases h
 | [k],v,x,h=>⟨k,Ch ..,v,CE.1 h⟩
 | k::k2::rk,v,x,h=>by
  have h':x∈GI k v.1 0::Gd (k2::rk) v.2:=h
  rcases Cq.1 h' with e | h2
  ·exact ⟨k,Ch ..,v.1,e⟩
  ·obtain ⟨k',h3,a,e⟩:=Q4l h2
   exact ⟨k',Ci _ h3,a,e⟩
theorem tcall_ok {C:TCfg U} {K:FuncId→List (TAV U)→Option (KR U)} {X:Qqo U} {P:Program} (hP:P=Tryz.prog) (hT:C.T.OK P) (hD:D.OK) {W:Wd} (hK:Q0s W D P K) (hX:WN W D P X) {f:FuncId} {fn:Func} (hf:P.funcs[f]?=some fn) (hen:Qc P f) {H:Hints U} {args:List (TAV U)} {rk:List (AK U)} {r:tup rk} (h:Qhu D C K X fn H args rk=some r) :
  FunW W P f (args.map (TAV.er D [])) (Qh (QN D rk r)):=by
 unfold Qhu at h
 split at h
 ·cases h
 ·rename_i c tc hc
  obtain ⟨hc1,hc2⟩:=WK hc
  cases hl:Nat.ble args.length fn.ntmps with
  | false=>rw [hl] at h;cases h
  | true =>
   rw [hl,C7] at h
   have ho:∀ (s:TSt U) (u:Option Value),Gs X Qii s u (fun s=>Q9h D C s rk fn.results.toList) (fun _ _=>none)=some r→∀ e,Qmn u e→∃ o,Qmt D rk r o∧EndO W P fn 0 e (s.er D) o:=by
    intro s u hend e he
    obtain ⟨s',a1,a2,a3,a4,a5⟩:=WI hX fn 0 (Q8f s.m) hend
    rcases a5 with ⟨b1,b2⟩ | ⟨v,rfl,b1,b2⟩
    ·obtain ⟨xs,q1,q2,q3⟩:=Qgg (P:=P) hT hD b1
     exact ⟨_,⟨xs,_,Z,q2,q3⟩,b2 e (s'.er D) xs he a2 (ToW.refl _ _ _ _) q1⟩
    ·cases b1
   refine FunW.of_p (Qbz (m:=⟨[],[],0⟩) hP hT hD hK hX (Q8f _) hf hen hc1 hc2 (C3 hl) (fun E=>To.refl _ _) (Sfx.refl _) h (S:=Qmt D rk r) (fun e s hs hk=>?_) (fun a hp hex=>?_))
   ·cases e with
    | normal=>exact ho s none hk _ (.inl rfl)
    | ret=>cases hk
    | exit j=>cases hk
    | goto l=>cases hk
    | panic c=>cases hk
    | outgrown=>cases hk
   ·cases hp
    exact ⟨fun s hs e=>ho s none e _ (.inr Z),fun v s hs e=>ho s (some v) e _ Z⟩
theorem Zf {C:TCfg U} {K:FuncId→List (TAV U)→Option (KR U)} {X:Qqo U} {P:Program} (hP:P=Tryz.prog) (hT:C.T.OK P) (hD:D.OK) {W:Wd} (hK:Q0s W D P K) (hX:WN W D P X) {f:FuncId} {fn:Func} (hf:P.funcs[f]?=some fn) (hen:Qc P f) (H:Hints U) (kf:KF U) (hd:kf.res.all JU=true)
  (h:∀ v,Qhu D C K X fn H (Gd kf.args v) kf.res=kf.m v):Yy D W P f kf:=⟨hd,fun v r hr=>tcall_ok hP hT hD hK hX hf hen ((h v).trans hr)⟩
variable (U) in
structure KP where
 args:List (AK U)
 res:List (AK U)
 pk:PK
 m:tup args→Option (tup res⊕pk.Ty)
end
end
noncomputable section
open Go.RowKit
section
variable (U:Univ)
inductive BX where
 | stc (T:TypeId) (t:U.T)
 | bld (T E:TypeId) (t:U.T)
end
section
variable {U:Univ} (D:Codec U)
@[reducible] def BX.Ty:BX U→Type
 | .stc _ t=>U.R t
 | .bld _ _ t=>List (U.R t)
def BX.n:BX U→Nat
 | .stc _ _=>1
 | .bld _ _ _=>2
def BX.rs:BX U→List Nat
 | .stc _ _=>[0]
 | .bld _ _ _=>[0,1]
def Q5m:(x:BX U)→x.Ty→TMe U
 | .stc T t,v=>⟨[.box 0 T [.grp t v]],[],1⟩
 | .bld T E t,v=>⟨[.box 0 T [.one (.ptr 0 0),.one (.app 1 0)]],[(1,⟨E,t,v,0⟩)],2⟩
def Qku (m:TMe U) (i:Nat):(x:BX U)→Option (x.Ty×List Nat)
 | .stc T t=>match Z2 m.es i with
  | some (T',N)=>cond (Nat.beq T' T&&Nat.beq N (U.E t).sz) (match WY D m.es i 0 N with
   | some xs=>match Q4u D m.tk t xs with
    | some v=>some (v,[i])
    | none=>none
   | none=>none) none
  | none=>none
 | .bld T E t=>match Z2 m.es i with
  | some (T',N)=>cond (Nat.beq T' T&&Nat.beq N 2) (match WY D m.es i 0 2 with
   | some [.one (.ptr i' off),.one (.app j ver)]=>match cur m.tk j ver with
    | some tok=>cond (Nat.beq i' i&&(Nat.beq off 0&&(Nat.beq tok.E E&&!(Nat.beq E 0)))) (match Ge tok.t t tok.l with
     | some l=>some (l,[i,j])
     | none=>none) none
    | none=>none
   | _=>none) none
  | none=>none
def Qe7 (m:TMe U) (i:Nat) (rs:List Nat):(x:BX U)→x.Ty→TMe U
 | .stc _ t,v=>⟨.set i 0 [.grp t v]::m.es,m.tk,m.nx⟩
 | .bld _ E t,v=>⟨.set i 1 [.one (.app (rs.getD 1 0) (QY m.tk (rs.getD 1 0)))]::m.es,(rs.getD 1 0,⟨E,t,v,QY m.tk (rs.getD 1 0)⟩)::m.tk,m.nx⟩
def Qm6 (m:TMe U) (i:Nat) (rs:List Nat):BX U→Bool
 | .stc _ _=>KI rs&&(rs.all (fun j=>Nat.blt j m.nx)&&(Qpt m.tk i).isNone)
 | .bld _ _ _=>KI rs&&(rs.all (fun j=>Nat.blt j m.nx)&&((Qpt m.tk i).isNone&&(m.es.all (K5 (rs.getD 1 0))&&!(m.es.any (Ev.hasApp (rs.getD 1 0) (QY m.tk (rs.getD 1 0)))))))
def GK:(x:BX U)→x.Ty→Nat→Nat→HB
 | .stc T t,v,_,_=>.cells T (((U.E t).enc v).map .d)
 | .bld T E t,v,i,j=>.cells T [.ptr i 0,.app j (U.E t).sz ((U.E t).encL v)]
def GJ:(x:BX U)→x.Ty→Nat→List (Nat×Option Tok)
 | .stc _ _,_,_=>[]
 | .bld _ E t,v,j=>[(j,(⟨E,t,v,0⟩:TTok U).erO)]
variable {D}
theorem Qdt (hD:D.OK) (x:BX U) (v:x.Ty):(Q5m x v).er D=⟨[(0,GK x v 0 1)],GJ x v 1,x.n⟩:=by
 cases x with
 | stc T t =>
  show (⟨[(0,.cells T (Je D [] [It.grp t v]))],[],1⟩:Mem)=_
  rw [Q2i hD];rfl
 | bld T E t=>rfl
theorem Qbv (ρ:Nat→Nat) (x:BX U) (v:x.Ty) (i j:Nat):(GK x v i j).ren ρ=GK x v (ρ i) (ρ j):=by
 cases x with
 | stc T t =>
  show HB.cells T ((((U.E t).enc v).map CA.d).map (CA.ren ρ))=_
  rw [CJ];rfl
 | bld T E t=>rfl
theorem DL {ys:List CA} {n:Nat} (h:ys.length=n):(ys.drop 0).take n=ys:=by
 rw [PR,Pl (by omega)]
theorem Qcu (hD:D.OK) {m:TMe U} {i:Nat} {x:BX U} {v:x.Ty} {rs:List Nat} (h:Qku D m i x=some (v,rs)) :
  (∃ A,Qpt (m.er D).hp i=some A∧∀ V w o,A.rel V w o→(GK x v i (rs.getD 1 0)).rel V w o)∧(∀ k T,Qpt (GJ x v (rs.getD 1 0)) k=some (some T)→Qpt (m.er D).tk k=some (some T))∧rs.length=x.n∧rs.getD 0 0=i:=by
 cases x with
 | stc T t =>
  have h':(match Z2 m.es i with
   | some (T',N)=>cond (Nat.beq T' T&&Nat.beq N (U.E t).sz) (match WY D m.es i 0 N with
    | some xs=>match Q4u D m.tk t xs with
     | some v=>some (v,[i])
     | none=>none
    | none=>none) none
   | none=>none)=some (v,rs):=h
  split at h'
  ·rename_i T' N hb
   cases hc:(Nat.beq T' T&&Nat.beq N (U.E t).sz) with
   | false=>rw [hc] at h';cases h'
   | true =>
    rw [hc,C7] at h'
    obtain ⟨c1,c2⟩:=C0.1 hc
    have e1:=C4 c1
    subst e1
    split at h'
    ·rename_i xs hr
     split at h'
     ·rename_i v' hv;cases h'
      obtain ⟨ys,b1,b2⟩:=Yb hD (tk:=m.tk) hb
      obtain ⟨T2,zs,r1,r2,r3⟩:=Yg hD (tk:=m.tk) hr
      rw [b1] at r1;cases r1
      rw [DL b2] at r3
      refine ⟨⟨_,b1,fun V w o hr=>BW.rel (.cells ?_) hr⟩,(fun k T hk=>by cases hk),rfl,rfl⟩
      rw [r3]
      exact Qbu (Q2j hD hv)
     ·cases h'
    ·cases h'
  ·cases h'
 | bld T E t =>
  have h':(match Z2 m.es i with
   | some (T',N)=>cond (Nat.beq T' T&&Nat.beq N 2) (match WY D m.es i 0 2 with
    | some [.one (.ptr i' off),.one (.app j ver)]=>match cur m.tk j ver with
     | some tok=>cond (Nat.beq i' i&&(Nat.beq off 0&&(Nat.beq tok.E E&&!(Nat.beq E 0)))) (match Ge tok.t t tok.l with
      | some l=>some (l,[i,j])
      | none=>none) none
     | none=>none
    | _=>none) none
   | none=>none)=some (v,rs):=h
  split at h'
  ·rename_i T' N hb
   cases hc:(Nat.beq T' T&&Nat.beq N 2) with
   | false=>rw [hc] at h';cases h'
   | true =>
    rw [hc,C7] at h'
    obtain ⟨c1,c2⟩:=C0.1 hc
    have e1:=C4 c1
    have e2:=C4 c2
    subst e1;subst e2
    split at h'
    ·rename_i i' off j ver hr
     split at h'
     ·rename_i tok hcur
      cases hq:(Nat.beq i' i&&(Nat.beq off 0&&(Nat.beq tok.E E&&!(Nat.beq E 0)))) with
      | false=>rw [hq] at h';cases h'
      | true =>
       rw [hq,C7] at h'
       obtain ⟨q1,q23⟩:=C0.1 hq
       obtain ⟨q2,q3⟩:=C0.1 q23
       have f1:=C4 q1
       have f2:=C4 q2
       obtain ⟨q3,q4⟩:=C0.1 q3
       have f3:=C4 q3
       have fN:Nat.beq E 0=false:=by simpa using q4
       subst f1;subst f2
       split at h'
       ·rename_i l hl;cases h'
        obtain ⟨et,el⟩:=YQ hl
        subst et
        have el':tok.l=v:=el.symm
        obtain ⟨ys,b1,b2⟩:=Yb hD (tk:=m.tk) hb
        obtain ⟨T2,zs,r1,r2,r3⟩:=Yg hD (tk:=m.tk) hr
        rw [b1] at r1;cases r1
        rw [DL b2] at r3
        have eapp:(TA.app j ver:TA U).er m.tk=.app j (U.E tok.t).sz ((U.E tok.t).encL tok.l):=by
         show (match cur m.tk j ver with
          | some T=>CA.app j (U.E T.t).sz ((U.E T.t).encL T.l)
          | none=>CA.any)=_
         rw [hcur]
        have e4:ys=[.ptr i' 0,.app j (U.E tok.t).sz ((U.E tok.t).encL tok.l)]:=by
         rw [r3]
         show [CA.ptr i' 0,(TA.app j ver:TA U).er m.tk]=_
         rw [eapp]
        refine ⟨⟨_,b1,fun V w o hr=>?_⟩,fun k T hk=>?_,Z,Z⟩
        ·rw [e4,el'] at hr;exact hr
        ·have hk0:Qpt [(j,(⟨E,tok.t,v,0⟩:TTok U).erO)] k=some (some T):=hk
         rw [K3 fN] at hk0
         have hk':Qpt [(j,some (⟨E,(U.E tok.t).sz,((U.E tok.t).encL v).length,[]⟩:Tok))] k=some (some T):=hk0
         rw [Q1] at hk'
         split at hk'
         ·rename_i ek;subst ek
          cases hk'
          have hlk:Qpt m.tk j=some tok:=by
           unfold cur at hcur
           split at hcur
           ·rename_i T0 h0
            cases hq:Nat.beq T0.ver ver with
            | false=>rw [hq] at hcur;cases hcur
            | true=>rw [hq] at hcur;cases hcur;exact h0
           ·cases hcur
          show Qpt (QI TTok.erO m.tk) j=_
          rw [QL,hlk]
          show some tok.erO=_
          rw [K3 (by rw [f3];exact fN)]
          unfold TTok.er
          rw [f3,el']
         ·cases hk'
       ·cases h'
     ·cases h'
    ·cases h'
  ·cases h'
variable (U) in
structure PF where
 bx:BX U
 args:List (AK U)
 res:List (AK U)
 pk:PK
 m:bx.Ty→tup args→Option ((bx.Ty×tup res)⊕(pk.Ty×bx.Ty))
def Qi7 (D:Codec U) (bx:BX U) (res:List (AK U)) (pk:PK):(bx.Ty×tup res)⊕(pk.Ty×bx.Ty)→OutM
 | .inl y=>.val (Qh (QN D res y.2)) ((Q5m bx y.1).er D)
 | .inr y=>.die (Q20 pk y.1) ((Q5m bx y.2).er D)
def WU (D:Codec U) (W:Wd) (P:Program) (f:Nat) (pf:PF U):Prop:=(pf.res.all JU=true∧pf.args.all JU=true)∧∀ b v y,pf.m b v=some y→CallO W P f (.one (.ptr 0 0)::QN D pf.args v) ((Q5m pf.bx b).er D) (Qi7 D pf.bx pf.res pf.pk y)
section
variable (D) (C:TCfg U) (K:FuncId→List (TAV U)→Option (KR U)) (X:Qqo U)
def Qhz (bx:BX U) (res:List (AK U)) (rs:List ResultVar) {α:Type} (s:TSt U):Option ((bx.Ty×tup res)⊕α):=match Q9h D C s res rs with
 | some r=>match Qku D s.m 0 bx with
  | some (b,ns)=>cond (Q5l ns bx.rs) (some (.inl (b,r))) none
  | none=>none
 | none=>none
def Qig (bx:BX U) (pk:PK) {α:Type} (v:Value) (s:TSt U):Option (α⊕(pk.Ty×bx.Ty)):=match Ql2 pk v with
 | some e=>match Qku D s.m 0 bx with
  | some (b,ns)=>cond (Q5l ns bx.rs) (some (.inr (e,b))) none
  | none=>none
 | none=>none
def Qld (fn:Func) (H:Hints U) (bx:BX U) (b:bx.Ty) (args:List (TAV U)) (res:List (AK U)) (pk:PK):Option ((bx.Ty×tup res)⊕(pk.Ty×bx.Ty)):=match Q0j fn.body H with
 | some (_,tc)=>cond (Nat.ble (args.length+1) fn.ntmps) (JJ D C K X tc Qii none (R:=(bx.Ty×tup res)⊕(pk.Ty×bx.Ty)) (fun s=>Gs X Qii s none (Qhz D C bx res fn.results.toList) (Qig D bx pk)) (fun v s=>Gs X Qii s (some v) (Qhz D C bx res fn.results.toList) (Qig D bx pk)) ⟨JD 0 (.one (.ptr 0 0)::args),Q5m bx b,fn.ntmps,[]⟩ some fun e s=>match e with
   | .normal=>Gs X Qii s none (Qhz D C bx res fn.results.toList) (Qig D bx pk)
   | _=>none) none
 | none=>none
end
theorem HRel.trimN {E:Env} {V:Vu} {hp:List (Nat×HB)} {tk:List (Nat×Option Tok)} {w:World} {n:Nat} (H:HRel E V hp tk w) (hh:∀ i B,Qpt hp i=some B→i < n∧B.below n) (ht:∀ i T,Qpt tk i=some (some T)→i < n) (h0:E.V0.nx≤n):HRel E { V with nx:=n } hp tk w:=by
 refine ⟨H.ext,⟨h0,H.le0.ι,H.le0.cu,H.le0.κ,H.le0.S,H.le0.cell,H.le0.dk⟩,H.sz,H.sub,?_,H.inj,H.new,?_,?_⟩
 ·intro i B hi
  obtain ⟨h1,h2⟩:=hh i B hi
  obtain ⟨-,o,ho,hB⟩:=H.own i B hi
  refine ⟨h1,o,ho,?_⟩
  cases B with
  | cells T xs=>obtain ⟨vs,h3,h4⟩:=hB;exact ⟨vs,h3,h4.trim h2⟩
  | obj o'=>exact hB
  | loop s p tm nt ps assign body D=>obtain ⟨-,fn,tmps,h3,h4,h5⟩:=hB;exact ⟨h2.1,fn,tmps,h3,h4,fun t x hx=>(h5 t x hx).trim (h2.2 t x hx)⟩
  | mp es clock=>obtain ⟨ents,h3,h4,h5⟩:=hB;exact ⟨ents,h3,h4,fun i k x b hi=>let ⟨v,h6,h7⟩:=h5 i k x b hi;⟨v,h6,h7.trim (h2 _ (Cs hi))⟩⟩
 ·intro i T hi
  obtain ⟨h1,hcu,xs,h2,h3⟩:=H.tok i T hi
  exact ⟨ht i _ hi,hcu,xs,h2,h3⟩
 ·exact H.tki
theorem Qgq (hD:D.OK) {bx:BX U} {b:bx.Ty} {s:TSt U} (hb:Qku D s.m 0 bx=some (b,bx.rs)) {E:Env} {V:Vu} {w:World} (H:HRel E V (s.er D).hp (s.er D).tk w) (h0:E.V0.nx≤bx.n):HRel E { V with nx:=bx.n } ((Q5m bx b).er D).hp ((Q5m bx b).er D).tk w:=by
 obtain ⟨⟨A,a1,a2⟩,a3,-,-⟩:=Qcu hD hb
 have ecb:GK bx b 0 (bx.rs.getD 1 0)=GK bx b 0 1:=by cases bx <;> rfl
 have ect:GJ bx b (bx.rs.getD 1 0)=GJ bx b 1:=by cases bx <;> rfl
 rw [ecb] at a2
 rw [ect] at a3
 rw [Qdt hD]
 have w1:∀ i B,Qpt [(0,GK bx b 0 1)] i=some B→∃ A,Qpt (s.er D).hp i=some A∧∀ V w o,A.rel V w o→B.rel V w o:=by
  intro i B hB
  rw [Q1] at hB
  split at hB
  ·rename_i e;subst e;cases hB;exact ⟨A,a1,a2⟩
  ·cases hB
 have w2:∀ i B,Qpt [(0,GK bx b 0 1)] i=some B→i < bx.n∧B.below bx.n:=by
  intro i B hB
  rw [Q1] at hB
  split at hB
  ·rename_i e;subst e;cases hB
   cases bx with
   | stc T t=>exact ⟨Nat.one_pos,fun x hx=>by obtain ⟨c,_,rfl⟩:=Cv.1 hx;trivial⟩
   | bld T E' t =>
    refine ⟨SE,fun x hx=>?_⟩
    rcases Cq.1 hx with rfl | hx
    ·exact SE
    ·rw [CE.1 hx];exact Sx
  ·cases hB
 have w3:∀ i T,Qpt (GJ bx b 1) i=some (some T)→i < bx.n:=by
  intro i T hT
  cases bx with
  | stc T' t=>cases hT
  | bld T' E' t =>
   have hT':Qpt [(1,(⟨E',t,b,0⟩:TTok U).erO)] i=some (some T):=hT
   rw [Q1] at hT'
   split at hT'
   ·rename_i e;subst e;exact Sx
   ·cases hT'
 exact (H.weak w1 fun i T hT=>a3 i T hT).trimN w2 w3 h0
theorem Q4q (x:BX U) (b:x.Ty):(Q5m x b).nx=x.n:=by cases x <;> rfl
def Qmu (D:Codec U) (bx:BX U) (res:List (AK U)) (pk:PK) (y:(bx.Ty×tup res)⊕(pk.Ty×bx.Ty)) (o:OutM):Prop :=
 ∃ (s:TSt U) (b':bx.Ty),Qku D s.m 0 bx=some (b',bx.rs)∧match y with
  | .inl z=>z.1=b'∧∃ xs,o=.val (Qh xs) (s.er D).mem∧xs.length=(QN D res z.2).length∧∀ (i:Nat) (y:AV),(QN D res z.2)[i]?=some y→∃ x,xs[i]?=some x∧∀ V w v,x.rel V w v→y.rel (Yn V.S) w v
  | .inr z=>z.2=b'∧o=.die (Q20 pk z.1) (s.er D).mem
theorem CallO.of_B (hD:D.OK) {W:Wd} {P:Program} {f:FuncId} {args:List AV} {bx:BX U} {b:bx.Ty} {res:List (AK U)} {pk:PK} {y:(bx.Ty×tup res)⊕(pk.Ty×bx.Ty)} (h:CallP W P f args ((Q5m bx b).er D) (Qmu D bx res pk y)):CallO W P f args ((Q5m bx b).er D) (Qi7 D bx res pk y):=by
 refine YG h.1 fun E V w vs hP hW H hn ha=>(h.2 E V w vs hP hW H hn ha).mono ?_
 rintro e w' ⟨o,⟨s,b',hb,hy⟩,ho⟩
 have hn':V.nx=bx.n:=hn.trans (Q4q bx b)
 have h0:E.V0.nx≤bx.n:=by rw [← hn'];exact H.le0.nx
 have le:∀ V':Vu,V.Le V' w w'→V.Le { V' with nx:=bx.n } w w':=fun V' L=>⟨P6 hn',L.ι,L.cu,L.κ,L.S,L.cell,L.dk⟩
 cases y with
 | inl z =>
  obtain ⟨rfl,xs,rfl,hl,hs⟩:=hy
  obtain ⟨v,V',rfl,H',hn2,L,hv⟩:=ho
  refine ⟨v,{ V' with nx:=bx.n },Z,Qgq hD hb H' h0,(Q4q bx _).symm,le V' L,?_⟩
  exact (Qad hl hs hv).mono (Qf1 (V:={ V' with nx:=bx.n }))
 | inr z =>
  obtain ⟨rfl,rfl⟩:=hy
  obtain ⟨V',rfl,H',hn2,L⟩:=ho
  exact ⟨{ V' with nx:=bx.n },Z,Qgq hD hb H' h0,(Q4q bx _).symm,le V' L⟩
theorem encK_data_below {k:AK U} (hk:JU k=true) (v:k.Ty) (m:Nat):(GI k v 0).belowB m=true:=UD k v 0 (fun i hi=>by cases k <;> first | (cases hk;done) | (cases hi)) (fun i hi=>by cases k <;> first | (cases hk;done) | (cases hi))
theorem XR {C:TCfg U} {K:FuncId→List (TAV U)→Option (KR U)} {X:Qqo U} {P:Program} (hP:P=Tryz.prog) (hT:C.T.OK P) (hD:D.OK) {W:Wd} (hK:Q0s W D P K) (hX:WN W D P X) {f:FuncId} {fn:Func} (hf:P.funcs[f]?=some fn) (hen:Qc P f) (H:Hints U) (pf:PF U) (hd:pf.res.all JU=true) (hd2:pf.args.all JU=true)
  (h:∀ b v,Qld D C K X fn H pf.bx b (Gd pf.args v) pf.res pf.pk=pf.m b v):WU D W P f pf:=by
 refine ⟨⟨hd,hd2⟩,fun b v y hy=>?_⟩
 have h:=(h b v).trans hy
 unfold Qld at h
 split at h
 ·rename_i c tc hc
  obtain ⟨hc1,hc2⟩:=WK hc
  cases l1:Nat.ble ((Gd pf.args v).length+1) fn.ntmps with
  | false=>rw [l1] at h;cases h
  | true =>
   rw [l1,C7] at h
   have ho:∀ (s:TSt U) (u:Option Value),Gs X Qii s u (Qhz D C pf.bx pf.res fn.results.toList) (Qig D pf.bx pf.pk)=some y→∀ e,Qmn u e→∃ o,Qmu D pf.bx pf.res pf.pk y o∧EndO W P fn (Q5m pf.bx b).nx e (s.er D) o:=by
    intro s u hend e he
    obtain ⟨s',a1,a2,a3,a4,a5⟩:=WI hX fn (Q5m pf.bx b).nx (Q8f s.m) hend
    rcases a5 with ⟨b1,b2⟩ | ⟨pv,rfl,b1,b2⟩
    ·unfold Qhz at b1
     split at b1
     ·rename_i r hr
      split at b1
      ·rename_i b' ns hb
       cases hq:Q5l ns pf.bx.rs with
       | false=>rw [hq] at b1;cases b1
       | true =>
        rw [hq] at b1;cases b1
        obtain ⟨xs,q1,q2,q3⟩:=Qgg (P:=P) hT hD hr
        have hns:=Gr hq
        subst hns
        exact ⟨_,⟨s',b',hb,Z,xs,Z,q2,q3⟩,b2 e (s'.er D) xs he a2 (ToW.refl _ _ _ _) q1⟩
      ·cases b1
     ·cases b1
    ·unfold Qig at b1
     split at b1
     ·rename_i ev hev
      split at b1
      ·rename_i b' ns hb
       cases hq:Q5l ns pf.bx.rs with
       | false=>rw [hq] at b1;cases b1
       | true =>
        rw [hq] at b1;cases b1
        have ee:=Qgh hev
        subst ee
        have hns:=Gr hq
        subst hns
        exact ⟨_,⟨s',b',hb,Z,Z⟩,b2 e (s'.er D) he a2 (ToW.refl _ _ _ _)⟩
      ·cases b1
     ·cases b1
   have hcall:=Qbz (m:=Q5m pf.bx b) hP hT hD hK hX (Q8f _) hf hen hc1 hc2 (show (TAV.one (TA.ptr 0 0)::Gd pf.args v).length≤fn.ntmps from C3 l1) (fun E=>To.refl _ _) (Sfx.refl _) h (S:=Qmu D pf.bx pf.res pf.pk y) (fun e s hs hk=>by
     cases e with
     | normal=>exact ho s none hk _ (.inl rfl)
     | ret=>cases hk
     | exit j=>cases hk
     | goto l=>cases hk
     | panic c=>cases hk
     | outgrown=>cases hk) (fun a hp hex=>by
     cases hp
     exact ⟨fun s hs e=>ho s none e _ (.inr Z),fun v s hs e=>ho s (some v) e _ Z⟩)
   have hargs:(TAV.one (TA.ptr 0 0)::Gd pf.args v).map (TAV.er D (Q5m pf.bx b).tk)=.one (.ptr 0 0)::QN D pf.args v:=by
    rw [CF]
    show AV.one (.ptr 0 0)::_=_
    rw [UC hD (Q5m pf.bx b).tk v hd2]
   rw [hargs] at hcall
   exact CallO.of_B hD hcall
 ·cases h
theorem Qal (hD:D.OK) (ρ:Nat→Nat) {rk:List (AK U)} (hk:rk.all JU=true) (v:tup rk):(QN D rk v).map (AV.ren ρ)=QN D rk v:=by
 unfold QN
 rw [CJ]
 refine Cx fun x hx=>?_
 obtain ⟨k,h1,a,rfl⟩:=Q4l hx
 have hk':=Cg.1 hk k h1
 cases k with
 | app i e t=>cases hk'
 | ptr i o=>cases hk'
 | any=>cases hk'
 | stc t =>
  have key:∀ x:U.R t,AV.ren ρ (AV.agg (Je D [] [It.grp t x]))=AV.agg (Je D [] [It.grp t x]):=fun x=>by
   rw [Q2i hD]
   show AV.agg ((((U.E t).enc x).map CA.d).map (CA.ren ρ))=_
   rw [CJ];rfl
  exact key a
 | int k=>rfl
 | bool=>rfl
 | str=>rfl
 | sl t=>rfl
theorem res_ren (ρ:Nat→Nat) (xs:List AV) (h:xs.map (AV.ren ρ)=xs):(Qh xs).ren ρ=Qh xs:=by
 match xs,h with
 | [],h=>rfl
 | [x],h =>
  have:x.ren ρ=x:=by injection h
  show TV.v (x.ren ρ)=.v x
  rw [this]
 | x::y::l,h =>
  show TV.tup ((x::y::l).map (AV.ren ρ))=.tup (x::y::l)
  rw [h]
section
variable (D)
def Qks (tb:List (Nat×PF U)):Qqo U:=fun _ c args m=>match c with
 | .fn f=>match Qpt tb f,args with
  | some pf,.one (.ptr i off)::rest=>cond (Nat.beq off 0) (match Qku D m i pf.bx,YN m.tk rest with
   | some (b,rs),some rest'=>cond (Qm6 m i rs pf.bx) (match Qdr D pf.args rest' with
    | some v=>some ⟨fun k d=>Option.bind (pf.m b v) (Sum.elim (fun r=>k (Qav pf.res r.2) (Qe7 m i rs pf.bx r.1)) fun e=>d (Q20 pf.pk e.1) (Qe7 m i rs pf.bx e.2))⟩
    | none=>none) none
   | _,_=>none) none
  | _,_=>none
 | _=>none
end
def JQ {α:Type} (rs:List Nat) (l:List (Nat×α)):List (Nat×α):=l.filter fun p=>!(rs.contains p.1)
theorem Xg {α:Type} (rs:List Nat):∀ (l:List (Nat×α)) (i:Nat),Qpt (JQ rs l) i=if i∈rs then none else Qpt l i
  | [],i=>by unfold JQ;simp [Qpt]
  | (k,x)::l,i=>by
    have ih:=Xg rs l i
    unfold JQ at ih ⊢
    rw [CB]
    by_cases hk:k∈rs
    · have:(!(rs.contains (k,x).1))=false:=by simp [hk]
      rw [this,C8 (by simp),ih]
      by_cases hi:i∈rs
      · rw [Cc hi,Cc hi]
      · rw [C8 hi,C8 hi,Q1,C8 (fun e=>hi (by rw [← e];exact hk))]
    · have:(!(rs.contains (k,x).1))=true:=by simp [hk]
      rw [this,Cc rfl,Q1,ih,Q1]
      by_cases e:k=i
      · rw [Cc e,Cc e,C8 (by rw [← e];exact hk)]
      · rw [C8 e,C8 e]
theorem Q9c {hp:List (Nat×HB)}:∀ {l:List (Nat×HB)},(∀ p∈l,Qpt hp p.1=some p.2)→hpLe hp l
  | [],h=>trivial
  | (i,x)::l,h=>⟨⟨x,h _ (Ch ..),.refl _⟩,Q9c fun p hp=>h p (Ci _ hp)⟩
theorem setL_whole {zs ys:List CA} (h:zs.length=ys.length):setL zs 0 ys=ys:=by
 rw [Q81 ys zs 0 (by omega),List.take_zero,P7,Sj (by omega),CH]
theorem encL_below {ks:List (AK U)} (hk:ks.all JU=true) (v:tup ks) (n:Nat):∀ y∈QN D ks v,y.below n:=by
 intro y hy
 obtain ⟨x,hx,rfl⟩:=Cv.1 hy
 obtain ⟨k,h1,a,rfl⟩:=Q4l hx
 exact Xs _ (encK_data_below (Cg.1 hk k h1) a n)
theorem wr_ok (hD:D.OK) {m:TMe U} {i:Nat} {x:BX U} {b:x.Ty} {rs:List Nat} (h:Qku D m i x=some (b,rs)) (hk:Qm6 m i rs x=true) (b':x.Ty) :
  (∀ k B,Qpt ((Qe7 m i rs x b').er D).hp k=some B→(k=i∧∀ V w o,(GK x b' i (rs.getD 1 0)).rel V w o→B.rel V w o)∨(k∉rs∧∃ A,Qpt (m.er D).hp k=some A∧∀ V w o,A.rel V w o→B.rel V w o)) ∧
  (∀ k T,Qpt ((Qe7 m i rs x b').er D).tk k=some (some T)→Qpt (GJ x b' (rs.getD 1 0)) k=some (some T)∨(k∉rs∧Qpt (m.er D).tk k=some (some T)))∧SfM m (Qe7 m i rs x b')∧(Qe7 m i rs x b').nx=m.nx:=by
 cases x with
 | stc T t =>
  have h':(match Z2 m.es i with
   | some (T',N)=>cond (Nat.beq T' T&&Nat.beq N (U.E t).sz) (match WY D m.es i 0 N with
    | some xs=>match Q4u D m.tk t xs with
     | some v=>some (v,[i])
     | none=>none
    | none=>none) none
   | none=>none)=some (b,rs):=h
  split at h'
  ·rename_i T' N hb
   cases hc:(Nat.beq T' T&&Nat.beq N (U.E t).sz) with
   | false=>rw [hc] at h';cases h'
   | true =>
    rw [hc,C7] at h'
    obtain ⟨c1,c2⟩:=C0.1 hc
    have e1:=C4 c1
    have e2:=C4 c2
    subst e1
    split at h'
    ·split at h'
     ·cases h'
      obtain ⟨ys,b1,b2⟩:=Yb hD (tk:=m.tk) hb
      have hk':(KI [i]&&([i].all (fun j=>Nat.blt j m.nx)&&(Qpt m.tk i).isNone))=true:=hk
      obtain ⟨k1,k2⟩:=C0.1 hk'
      obtain ⟨k2,Qpz⟩:=C0.1 k2
      have hrow:∀ v:U.R t,Je D m.tk [It.grp t v]=((U.E t).enc v).map .d:=fun v=>Q2i hD m.tk t v
      refine ⟨fun k B hB=>?_,fun k T hT=>?_,⟨⟨[_],Z⟩,⟨[],Z⟩,Ck _⟩,Z⟩
      ·have hB':Qpt (match Qpt (Qg D m.tk m.es) i with
        | some (.cells T ys)=>(i,.cells T (setL ys 0 (Je D m.tk [It.grp t b'])))::Qg D m.tk m.es
        | _=>Qg D m.tk m.es) k=some B:=hB
       rw [b1] at hB'
       dsimp only at hB'
       rw [Q1] at hB'
       split at hB'
       ·rename_i ek
        left
        refine ⟨ek.symm,fun V w o hr=>?_⟩
        cases hB'
        rw [setL_whole (by rw [Zk hD,b2,e2];rfl),hrow b']
        exact hr
       ·rename_i ek
        right
        exact ⟨fun hm=>ek (CE.1 hm).symm,B,hB',fun _ _ _ h=>h⟩
      ·right
       refine ⟨fun hm=>?_,hT⟩
       rw [CE.1 hm] at hT
       have hT':Qpt (QI TTok.erO m.tk) i=some (some T):=hT
       rw [QL] at hT'
       cases hz:Qpt m.tk i with
       | none=>rw [hz] at hT';cases hT'
       | some z=>rw [hz] at Qpz;cases Qpz
     ·cases h'
    ·cases h'
  ·cases h'
 | bld T E t =>
  have h0:=h
  have h':(match Z2 m.es i with
   | some (T',N)=>cond (Nat.beq T' T&&Nat.beq N 2) (match WY D m.es i 0 2 with
    | some [.one (.ptr i' off),.one (.app j ver)]=>match cur m.tk j ver with
     | some tok=>cond (Nat.beq i' i&&(Nat.beq off 0&&(Nat.beq tok.E E&&!(Nat.beq E 0)))) (match Ge tok.t t tok.l with
      | some l=>some (l,[i,j])
      | none=>none) none
     | none=>none
    | _=>none) none
   | none=>none)=some (b,rs):=h
  split at h'
  ·rename_i T' N hb
   cases hc:(Nat.beq T' T&&Nat.beq N 2) with
   | false=>rw [hc] at h';cases h'
   | true =>
    rw [hc,C7] at h'
    obtain ⟨c1,c2⟩:=C0.1 hc
    have e1:=C4 c1
    have e2:=C4 c2
    subst e1;subst e2
    split at h'
    ·rename_i i' off j ver hr
     split at h'
     ·rename_i tok hcur
      cases hq:(Nat.beq i' i&&(Nat.beq off 0&&(Nat.beq tok.E E&&!(Nat.beq E 0)))) with
      | false=>rw [hq] at h';cases h'
      | true =>
       rw [hq,C7] at h'
       obtain ⟨q1,q23⟩:=C0.1 hq
       obtain ⟨q2,q3⟩:=C0.1 q23
       have f1:=C4 q1
       have f2:=C4 q2
       subst f1;subst f2
       split at h'
       ·cases h'
        have hk':(KI [i',j]&&([i',j].all (fun j=>Nat.blt j m.nx)&&((Qpt m.tk i').isNone&&(m.es.all (K5 j)&&!(m.es.any (Ev.hasApp j (QY m.tk j)))))))=true:=hk
        obtain ⟨k1,k2⟩:=C0.1 hk'
        obtain ⟨k2,Qpz⟩:=C0.1 k2
        obtain ⟨Qpz,k4⟩:=C0.1 Qpz
        obtain ⟨k4,k5⟩:=C0.1 k4
        have hij:i' ≠ j:=fun e=>by
         have:=Wz k1
         rw [e] at this
         simp at this
        obtain ⟨tk',htk'⟩:∃ tk',tk'=(j,(⟨E,t,b',QY m.tk j⟩:TTok U))::m.tk:=⟨_,rfl⟩
        obtain ⟨ys,b1,b2⟩:=Yb hD (tk:=tk') hb
        obtain ⟨T2,zs,r1,r2,r3⟩:=Yg hD (tk:=tk') hr
        rw [b1] at r1;cases r1
        rw [DL b2] at r3
        have eapp:(TA.app j (QY m.tk j):TA U).er tk'=.app j (U.E t).sz ((U.E t).encL b'):=by
         show (match cur tk' j (QY m.tk j) with
          | some T=>CA.app j (U.E T.t).sz ((U.E T.t).encL T.l)
          | none=>CA.any)=_
         rw [htk',Zm,Cc rfl,Cc rfl]
        have hst:=YP (D:=D) (tk:=m.tk) (tk':=tk') (es:=m.es) (by
         rw [htk']
         exact UH fun hp=>by
          have:m.es.any (Ev.hasApp j (QY m.tk j))=true:=hp
          have k5':(!(m.es.any (Ev.hasApp j (QY m.tk j))))=true:=k5
          rw [this] at k5';cases k5')
        refine ⟨fun k B hB=>?_,fun k T hT=>?_,⟨⟨[_],Z⟩,⟨[_],Z⟩,Ck _⟩,Z⟩
        ·have hB':Qpt (match Qpt (Qg D tk' m.es) i' with
          | some (.cells T ys)=>(i',.cells T (setL ys 1 (Je D tk' [It.one (.app j (QY m.tk j))])))::Qg D tk' m.es
          | _=>Qg D tk' m.es) k=some B:=by rw [htk'];exact hB
         rw [b1] at hB'
         dsimp only at hB'
         rw [Q1] at hB'
         split at hB'
         ·rename_i ek
          left
          refine ⟨ek.symm,fun V w o hr=>?_⟩
          cases hB'
          have e5:setL ys 1 (Je D tk' [It.one (.app j (QY m.tk j))])=[.ptr i' 0,.app j (U.E t).sz ((U.E t).encL b')]:=by
           rw [r3]
           show setL [CA.ptr i' 0,(TA.app j ver:TA U).er tk'] 1 [(TA.app j (QY m.tk j):TA U).er tk']=_
           rw [eapp];rfl
          rw [e5]
          exact hr
         ·rename_i ek
          right
          have hkj:k ≠ j:=fun e=>by
           rw [e,Q67 (show m.es.all (K5 j)=true from k4)] at hB'
           cases hB'
          have ow:=hst k
          rw [hB'] at ow
          cases hA:Qpt (Qg D m.tk m.es) k with
          | none=>rw [hA] at ow;exact ow.elim
          | some A =>
           rw [hA] at ow
           refine ⟨fun hm=>?_,A,hA,fun V w o hr=>BW.rel ow hr⟩
           rcases Cq.1 hm with e | hm
           ·exact ek e.symm
           ·exact hkj (CE.1 hm)
        ·have hT':Qpt (QI TTok.erO ((j,(⟨E,t,b',QY m.tk j⟩:TTok U))::m.tk)) k=some (some T):=hT
         have hT2:Qpt ((j,(⟨E,t,b',QY m.tk j⟩:TTok U).erO)::QI TTok.erO m.tk) k=some (some T):=hT'
         rw [Q1] at hT2
         split at hT2
         ·rename_i ek
          left
          rw [← hT2]
          show Qpt [(j,_)] k=_
          rw [Q1,Cc ek];rfl
         ·rename_i ek
          right
          refine ⟨fun hm=>?_,hT2⟩
          rcases Cq.1 hm with e | hm
          ·rw [e,QL] at hT2
           cases hz:Qpt m.tk i' with
           | none=>rw [hz] at hT2;cases hT2
           | some z =>
            have k3':(Qpt m.tk i').isNone=true:=Qpz
            rw [hz] at k3';cases k3'
          ·exact ek (CE.1 hm).symm
       ·cases h'
     ·cases h'
    ·cases h'
  ·cases h'
theorem okB_ok {m:TMe U} {i:Nat} {rs:List Nat} {x:BX U} (h:Qm6 m i rs x=true):rs.Nodup∧∀ j∈rs,j < m.nx:=by
 have key:KI rs=true∧rs.all (fun j=>Nat.blt j m.nx)=true:=by
  cases x with
  | stc T t =>
   have h':(KI rs&&(rs.all (fun j=>Nat.blt j m.nx)&&(Qpt m.tk i).isNone))=true:=h
   obtain ⟨k1,k2⟩:=C0.1 h'
   exact ⟨k1,(C0.1 k2).1⟩
  | bld T E t =>
   have h':(KI rs&&(rs.all (fun j=>Nat.blt j m.nx)&&((Qpt m.tk i).isNone&&(m.es.all (K5 (rs.getD 1 0))&&!(m.es.any (Ev.hasApp (rs.getD 1 0) (QY m.tk (rs.getD 1 0))))))))=true:=h
   obtain ⟨k1,k2⟩:=C0.1 h'
   exact ⟨k1,(C0.1 k2).1⟩
 exact ⟨Wz key.1,fun j hj=>C3 (Cg.1 key.2 j hj)⟩
theorem cbox_below (x:BX U) (b:x.Ty):hpBelow x.n [(0,GK x b 0 1)]:=by
 cases x with
 | stc T t=>exact ⟨Nat.one_pos,fun x hx=>by obtain ⟨c,_,rfl⟩:=Cv.1 hx;trivial,trivial⟩
 | bld T E t =>
  refine ⟨SE,fun x hx=>?_,trivial⟩
  rcases Cq.1 hx with rfl | hx
  ·exact SE
  ·rw [CE.1 hx];exact Sx
theorem ctok_below (x:BX U) (b:x.Ty):tkBelow x.n (GJ x b 1):=by
 cases x with
 | stc T t=>trivial
 | bld T E t=>exact ⟨Sx,trivial⟩
theorem Q85 (x:BX U) {rs:List Nat} (hl:rs.length=x.n) (n:Nat):Kf rs n 0=rs.getD 0 0∧rs.getD 0 0∈rs∧∀ z:x.Ty,Jq (Kf rs n) [(0,GK x z 0 1)]=[(rs.getD 0 0,GK x z (rs.getD 0 0) (rs.getD 1 0))]∧JS (Kf rs n) (GJ x z 1)=GJ x z (rs.getD 1 0)∧∀ (k:Nat) (T:Option Tok),Qpt (GJ x z (rs.getD 1 0)) k=some T→k∈rs:=by
 cases x with
 | stc T t =>
  match rs,hl with
  | [q],_ =>
   refine ⟨rfl,Ch ..,fun z=>⟨?_,rfl,fun k T h=>by cases h⟩⟩
   show [(q,(GK (BX.stc T t) z 0 1).ren _)]=_
   rw [Qbv];rfl
 | bld T E t =>
  match rs,hl with
  | [q,q2],_ =>
   refine ⟨Z,Ch ..,fun z=>⟨?_,Z,fun k T h=>?_⟩⟩
   ·show [(q,(GK (BX.bld T E t) z 0 1).ren _)]=_
    rw [Qbv];rfl
   ·have h':Qpt [(q2,(⟨E,t,z,0⟩:TTok U).erO)] k=some T:=h
    rw [Q1] at h'
    split at h'
    ·rename_i e;rw [← e];exact Ci _ (Ch ..)
    ·cases h'
theorem ctok_le (x:BX U) (b:x.Ty) (j:Nat) (r:List (Nat×Option Tok)):tkLe (GJ x b j++r) (GJ x b j):=by
 cases x with
 | stc T t=>trivial
 | bld T E t=>exact ⟨fun T hT=>by show Qpt ((j,_)::_) _=_;rw [Q1,Cc rfl,hT],trivial⟩
def JI {α:Type}:List (Nat×α)→List (Nat×α)
  | []=>[]
  | (k,x)::l=>(k,x)::QA k (JI l)
theorem GF {α:Type}:∀ (l:List (Nat×α)) (i:Nat),Qpt (JI l) i=Qpt l i
  | [],i=>rfl
  | (k,x)::l,i=>by
    show Qpt ((k,x)::QA k (JI l)) i=_
    rw [Jm,Q1,Q1,GF l i]
theorem UA {α:Type}:∀ (l:List (Nat×α)),∀ p∈JI l,Qpt l p.1=some p.2
  | [],p,h=>by cases h
  | (k,x)::l,p,h=>by
    rcases Cq.1 h with e | h
    · rw [e,Q1,Cc rfl]
    · obtain ⟨h1,h2⟩:=PJ.1 h
      have hne:p.1 ≠ k:=Kb (by simpa using h2)
      rw [Q1,C8 (fun e=>hne e.symm)]
      exact UA l p h1
theorem Qeb {tk:List (Nat×Option Tok)}:∀ {l:List (Nat×Option Tok)},(∀ p∈l,Qpt tk p.1=some p.2)→tkLe tk l
  | [],h=>trivial
  | (i,x)::l,h=>⟨fun T e=>by rw [h _ (Ch ..),e],Qeb fun p hp=>h p (Ci _ hp)⟩
theorem call_box {W:Wd} {P:Program} (hD:D.OK) {f:FuncId} {bx:BX U} {b:bx.Ty} {args0:List AV} {m:TMe U} {i:Nat} {rs:List Nat} {o:OutM} (hrd:Qku D m i bx=some (b,rs)) (hok:Qm6 m i rs bx=true) (ha:∀ ρ:Nat→Nat,args0.map (AV.ren ρ)=args0) (hb:∀ y∈args0,y.below bx.n)
    (hc:CallO W P f (.one (.ptr 0 0)::args0) ((Q5m bx b).er D) o) (hn:o.m.nx=bx.n):CallO W P f (.one (.ptr i 0)::args0) (m.er D) (o.ren (Kf rs m.nx) (JI (JQ rs (m.er D).hp)) (JI (JQ rs (m.er D).tk)) m.nx):=by
  obtain ⟨hnd,hlt⟩:=okB_ok hok
  obtain ⟨⟨A,a1,a2⟩,a3,a4,a5⟩:=Qcu hD hrd
  obtain ⟨ρ0,him,ρb⟩:=Q85 bx a4 m.nx
  rw [a5] at ρ0 him ρb
  obtain ⟨r1,r2,r3⟩:=ρb b
  rw [Qdt hD] at hc
  have hren:=CallO.ren (n:=m.nx) (nx2:=m.nx) (hp:=[(i,GK bx b i (rs.getD 1 0))]++JQ rs (m.er D).hp) (tk:=GJ bx b (rs.getD 1 0)++JQ rs (m.er D).tk) (hpF:=JI (JQ rs (m.er D).hp)) (tkF:=JI (JQ rs (m.er D).tk)) rs hc
    (by
      rw [r1]
      exact Q9c fun p hp=>by rw [CE.1 hp];show Qpt ((i,_)::_) i=_;rw [Q1,Cc rfl])
    (by rw [r2];exact ctok_le _ _ _ _)
    (Q9c fun p hp=>by
      have h1:=UA _ p hp
      show Qpt ((i,_)::JQ rs (m.er D).hp) p.1=_
      have hni:p.1 ≠ i:=fun e=>by
        rw [Xg,e,Cc him] at h1;cases h1
      rw [Q1,C8 (fun e=>hni e.symm)];exact h1)
    (Qeb fun p hp=>by
      have h1:=UA _ p hp
      have hni:p.1∉rs:=fun e=>by rw [Xg,Cc e] at h1;cases h1
      rw [U2]
      cases hc:Qpt (GJ bx b (rs.getD 1 0)) p.1 with
      | none=>exact h1
      | some x=>exact (hni (r3 _ _ hc)).elim)
    a4 hnd hlt
    (fun k B hB hm=>by rw [GF,Xg,Cc hm] at hB;cases hB)
    (fun k T hT hm=>by rw [GF,Xg,Cc hm] at hT;cases hT)
    (cbox_below _ _) (ctok_below _ _)
    (fun y hy=>by
      rcases Cq.1 hy with rfl | hy
      · show 0 < bx.n;cases bx <;> first | exact Nat.one_pos | exact SE
      · exact hb y hy)
    (by rw [hn];exact Ck _) (by rw [hn];exact Nat.add_comm _ _)
  have eargs:((AV.one (.ptr 0 0))::args0).map (AV.ren (Kf rs m.nx))=.one (.ptr i 0)::args0:=by
    rw [CF,ha]
    show AV.one (.ptr (Kf rs m.nx 0) 0)::args0=_
    rw [ρ0]
  rw [eargs] at hren
  refine CallO.pre (m0:=⟨[(i,GK bx b i (rs.getD 1 0))]++JQ rs (m.er D).hp,GJ bx b (rs.getD 1 0)++JQ rs (m.er D).tk,m.nx⟩) (fun k B hB=>?_) (fun k T hT=>?_) Z hren
  · have hB':Qpt ((i,GK bx b i (rs.getD 1 0))::JQ rs (m.er D).hp) k=some B:=hB
    rw [Q1] at hB'
    split at hB'
    · rename_i e;subst e;cases hB';exact ⟨A,a1,a2⟩
    · rw [Xg] at hB'
      split at hB'
      · cases hB'
      · exact ⟨B,hB',fun _ _ _ h=>h⟩
  · have hT':Qpt (GJ bx b (rs.getD 1 0)++JQ rs (m.er D).tk) k=some (some T):=hT
    rw [U2] at hT'
    split at hT'
    · rename_i x hx;cases hT';exact a3 k T hx
    · rw [Xg] at hT'
      split at hT'
      · cases hT'
      · exact hT'
theorem Kd (hD:D.OK) {P:Program} {tb:List (Nat×PF U)} {W:Wd} (h:AllT (WU D W P) tb):WN W D P (Qks D tb):=by
 intro Y c args m xo hY hx
 unfold Qks at hx
 split at hx
 ·rename_i f
  split at hx
  ·rename_i pf i off rest hpf
   cases hoff:Nat.beq off 0 with
   | false=>rw [hoff] at hx;cases hx
   | true =>
    rw [hoff,C7] at hx
    have eoff:=C4 hoff
    subst eoff
    split at hx
    ·rename_i b rs rest' hrd hs
     cases hok:Qm6 m i rs pf.bx with
     | false=>rw [hok] at hx;cases hx
     | true =>
      rw [hok,C7] at hx
      split at hx
      ·rename_i v hv;cases hx
       obtain ⟨⟨hd1,hd2⟩,hm⟩:=h.get hpf
       intro β k d r hr
       obtain ⟨y,hy,hk⟩:=YS (show Option.bind _ _=some r from hr)
       have hc:=hm b v y hy
       have hn:(Qi7 D pf.bx pf.res pf.pk y).m.nx=pf.bx.n:=by
        cases y with
        | inl y=>exact Q4q _ _
        | inr y=>exact Q4q _ _
       have call:=call_box hD hrd hok (fun ρ=>Qal hD ρ hd2 v) (encL_below hd2 v _) hc hn
       obtain ⟨-,-,a4,a5⟩:=Qcu hD hrd
       obtain ⟨-,-,ρb⟩:=Q85 pf.bx a4 m.nx
       rw [a5] at ρb
       have hargs:∀ V w vs,argsRel V w ((TAV.one (TA.ptr i 0)::rest).map (TAV.er D m.tk)) vs→argsRel V w (AV.one (.ptr i 0)::QN D pf.args v) vs:=by
        intro V w vs ha
        have hsb:=G5 (D:=D) hs (Q0i hD hv m.tk)
        obtain ⟨h3,h4⟩:=hsb.spec
        refine ⟨by rw [ha.1,CF,C2,C2,h3],fun j z hz=>?_⟩
        cases j with
        | zero =>
         cases hz
         exact ha.2 0 _ Z
        | succ j =>
         obtain ⟨x,hx,hxy⟩:=h4 j z hz
         obtain ⟨u,hu,hr⟩:=ha.2 (j+1) x hx
         exact ⟨u,hu,(hxy.rel hr).mono (Qf1 (V:=V))⟩
       have post:∀ b':pf.bx.Ty,(Qi7 D pf.bx pf.res pf.pk y).m=(Q5m pf.bx b').er D→CallO W P f (AV.one (.ptr i 0)::QN D pf.args v) (m.er D) (((Qi7 D pf.bx pf.res pf.pk y).ren (Kf rs m.nx) (JI (JQ rs (m.er D).hp)) (JI (JQ rs (m.er D).tk)) m.nx).with ((Qe7 m i rs pf.bx b').er D))∧SfM m (Qe7 m i rs pf.bx b'):=by
        intro b' hb'
        obtain ⟨w1,w2,w3,w4⟩:=wr_ok hD hrd hok b'
        obtain ⟨r1,r2,-⟩:=ρb b'
        have em:((Qi7 D pf.bx pf.res pf.pk y).ren (Kf rs m.nx) (JI (JQ rs (m.er D).hp)) (JI (JQ rs (m.er D).tk)) m.nx).m=⟨[(i,GK pf.bx b' i (rs.getD 1 0))]++JI (JQ rs (m.er D).hp),GJ pf.bx b' (rs.getD 1 0)++JI (JQ rs (m.er D).tk),m.nx⟩:=by
         have e0:∀ o:OutM,(o.ren (Kf rs m.nx) (JI (JQ rs (m.er D).hp)) (JI (JQ rs (m.er D).tk)) m.nx).m=⟨Jq (Kf rs m.nx) o.m.hp++JI (JQ rs (m.er D).hp),JS (Kf rs m.nx) o.m.tk++JI (JQ rs (m.er D).tk),m.nx⟩:=fun o=>by cases o <;> rfl
         rw [e0,hb',Qdt hD]
         show (⟨Jq _ [(0,GK pf.bx b' 0 1)]++_,JS _ (GJ pf.bx b' 1)++_,_⟩:Mem)=_
         rw [r1,r2]
        refine ⟨CallO.post (fun k B hB=>?_) (fun k T hT=>?_) (by rw [em];exact w4) call,w3⟩
        ·rw [em]
         show ∃ A,Qpt ((i,GK pf.bx b' i (rs.getD 1 0))::JI (JQ rs (m.er D).hp)) k=some A∧_
         rcases w1 k B hB with ⟨e,hw⟩ | ⟨hn',A,hA,hw⟩
         ·exact ⟨_,by rw [Q1,Cc e.symm],hw⟩
         ·refine ⟨A,?_,hw⟩
          have hki:i ≠ k:=fun e=>by
           obtain ⟨-,him,-⟩:=Q85 pf.bx a4 m.nx
           rw [a5,e] at him
           exact hn' him
          rw [Q1,C8 hki,GF,Xg,C8 hn']
          exact hA
        ·rw [em]
         show Qpt (GJ pf.bx b' (rs.getD 1 0)++JI (JQ rs (m.er D).tk)) k=some (some T)
         rw [U2]
         rcases w2 k T hT with e | ⟨hn',e⟩
         ·rw [e]
         ·obtain ⟨-,-,r3⟩:=ρb b'
          cases hz:Qpt (GJ pf.bx b' (rs.getD 1 0)) k with
          | some x=>exact (hn' (r3 k x hz)).elim
          | none=>dsimp only;rw [GF,Xg,C8 hn'];exact e
       cases y with
       | inl y =>
        obtain ⟨p1,p2⟩:=post y.1 rfl
        refine ⟨.val (Qav pf.res y.2) (Qe7 m i rs pf.bx y.1),?_,p2,hk⟩
        show CallO W P f ((TAV.one (TA.ptr i 0)::rest).map (TAV.er D m.tk)) (m.er D) (.val ((Qav pf.res y.2).er D _) _)
        rw [Qf0 hD _ y.2 hd1]
        have e:((Qi7 D pf.bx pf.res pf.pk (.inl y)).ren (Kf rs m.nx) (JI (JQ rs (m.er D).hp)) (JI (JQ rs (m.er D).tk)) m.nx).with ((Qe7 m i rs pf.bx y.1).er D)=.val (Qh (QN D pf.res y.2)) ((Qe7 m i rs pf.bx y.1).er D):=by
         show OutM.val ((Qh (QN D pf.res y.2)).ren _) _=_
         rw [res_ren _ _ (Qal hD _ hd1 y.2)]
        rw [e] at p1
        exact CallO.args hargs p1
       | inr y =>
        obtain ⟨p1,p2⟩:=post y.2 rfl
        exact ⟨.die (Q20 pf.pk y.1) (Qe7 m i rs pf.bx y.2),CallO.args (o:=.die (Q20 pf.pk y.1) ((Qe7 m i rs pf.bx y.2).er D)) hargs p1,p2,hk⟩
      ·cases hx
    ·cases hx
  ·cases hx
 ·cases hx
end
end
noncomputable section
open Go.RowKit
section
variable {U:Univ} (D:Codec U)
def Qox (f T:Nat):Qqo U:=fun _ c args m=>match c with
 | .fn g=>match args with
  | [.one (.ptr i off)]=>cond (Nat.beq g f&&Nat.beq off 0) (match Z2 m.es i,WY D m.es i 0 1 with
   | some (T',N),some [.one (.ptr i' o')]=>cond (Nat.beq i' i&&Nat.beq o' 0) (some ⟨fun k _=>k (.tup []) m⟩) none
   | some (T',N),some [.one (.c (.v (.pointer none)))]=>cond (Nat.beq T' T&&Nat.beq N 2) (some ⟨fun k _=>k (.tup []) ⟨.set i 0 [.one (.ptr i 0)]::m.es,m.tk,m.nx⟩⟩) none
   | _,_=>none) none
  | _=>none
 | _=>none
variable {D}
theorem Q8c {V:Vu} {w:World} {x:AV} {vs:Array Value} (h:argsRel V w [x] vs):∃ u,vs=#[u]∧x.rel V w u:=by
 obtain ⟨u,hu,hr⟩:=h.2 0 x rfl
 refine ⟨u,?_,hr⟩
 apply PD
 intro k
 match k with
 | 0=>rw [hu];rfl
 | k+1=>rw [CU (by rw [h.1];simp)];simp
theorem ccH_ok (hD:D.OK) {W:Wd} {P:Program} {f T:Nat} (hen:Qc P f)
  (hu:∀ b w,w.cell? ⟨b,0,none⟩=some (.pointer (some ⟨b,0,none⟩))→Calls P f #[.pointer (some ⟨b,0,none⟩)] w fun e w'=>e=.returned (.tuple #[])∧w'=w)
  (hf:∀ b w,w.cell? ⟨b,0,none⟩=some (.pointer none)→w.shape? b=some (T,2)→w.frozen? ⟨b,0,none⟩=false →
   Calls P f #[.pointer (some ⟨b,0,none⟩)] w fun e w'=>e=.returned (.tuple #[])∧w'=w.setCell ⟨b,0,none⟩ (.pointer (some ⟨b,0,none⟩))):WN W D P (Qox D f T):=by
 intro Y c args m xo hY hx
 unfold Qox at hx
 split at hx
 ·rename_i g
  split at hx
  ·rename_i i off
   cases hc:(Nat.beq g f&&Nat.beq off 0) with
   | false=>rw [hc] at hx;cases hx
   | true =>
    rw [hc,C7] at hx
    obtain ⟨c1,c2⟩:=C0.1 hc
    have e1:=C4 c1;have e2:=C4 c2
    subst e1 e2
    have first:∀ {x:TA U},WY D m.es i 0 1=some [.one x]→∃ T ys,Qpt (m.er D).hp i=some (.cells T ys)∧ys[0]?=(Je D m.tk [.one x])[0]?:=fun {x} h=>by
     obtain ⟨T,ys,h1,h2,h3⟩:=Yg hD (tk:=m.tk) h
     refine ⟨T,ys,h1,?_⟩
     rw [← h3];simp
    split at hx
    ·rename_i T' N i' o' hb hr
     cases hc2:(Nat.beq i' i&&Nat.beq o' 0) with
     | false=>rw [hc2] at hx;cases hx
     | true =>
      rw [hc2] at hx;cases hx
      obtain ⟨d1,d2⟩:=C0.1 hc2
      have e1:=C4 d1;have e2:=C4 d2
      subst e1 e2
      obtain ⟨T2,ys,hl,hy⟩:=first hr
      intro β k d r hrun
      refine ⟨.val (.tup []) m,?_,SfM.refl m,hrun⟩
      refine YG hen (o:=.val (.tup []) (m.er D)) fun E V w vs hP hW H hn ha=>?_
      obtain ⟨u,rfl,hu'⟩:=Q8c ha
      obtain ⟨-,rfl⟩:i' < V.nx∧u=.pointer (some ⟨V.ι i',0,none⟩):=hu'
      obtain ⟨-,o,ho,vs,rfl,hvs⟩:=H.own _ _ hl
      obtain ⟨u0,hu0,hr0⟩:=hvs.2 0 _ hy
      obtain ⟨-,rfl⟩:i' < V.nx∧u0=.pointer (some ⟨V.ι i',0,none⟩):=hr0
      refine (hu (V.ι i') w (by rw [J9 ho];exact hu0)).mono ?_
      rintro e w' ⟨rfl,rfl⟩
      exact ⟨_,V,rfl,H,hn,Vu.Le.refl _ _,⟨#[],rfl,rfl,fun i y hy=>by cases hy⟩⟩
    ·rename_i T' N hb hr
     cases hc2:(Nat.beq T' T&&Nat.beq N 2) with
     | false=>rw [hc2] at hx;cases hx
     | true =>
      rw [hc2] at hx;cases hx
      obtain ⟨d1,d2⟩:=C0.1 hc2
      have e1:=C4 d1;have e2:=C4 d2
      subst e1 e2
      obtain ⟨T2,ys,hl,hy⟩:=first hr
      obtain ⟨ys2,hl2,hlen⟩:=Yb hD (tk:=m.tk) hb
      obtain ⟨rfl,rfl⟩:T2=T'∧ys=ys2:=by
       have:=hl.symm.trans hl2
       cases this;exact ⟨rfl,rfl⟩
      intro β k d r hrun
      refine ⟨.val (.tup []) ⟨.set i 0 [.one (.ptr i 0)]::m.es,m.tk,m.nx⟩,?_,⟨⟨[_],Z⟩,⟨[],Z⟩,Ck _⟩,hrun⟩
      refine YG hen (o:=.val (.tup []) ((⟨.set i 0 [.one (.ptr i 0)]::m.es,m.tk,m.nx⟩:TMe U).er D)) fun E V w vs hP hW H hn ha=>?_
      obtain ⟨u,rfl,hu'⟩:=Q8c ha
      obtain ⟨hi,rfl⟩:i < V.nx∧u=.pointer (some ⟨V.ι i,0,none⟩):=hu'
      obtain ⟨-,o,ho,vs,rfl,hvs⟩:=H.own _ _ hl
      obtain ⟨u0,hu0,hr0⟩:=hvs.2 0 _ hy
      have e0:u0=.pointer none:=by cases hr0;rfl
      subst e0
      refine (hf (V.ι i) w (by rw [J9 ho];exact hu0) (by have:=hvs.1;unfold World.shape?;rw [ho];simp only [];rw [this,hlen]) (Q1g ho 0)).mono ?_
      rintro e w' ⟨rfl,rfl⟩
      obtain ⟨H1,L1⟩:=H.store hl 0 (x:=.ptr i 0) (u:=.pointer (some ⟨V.ι i,0,none⟩)) ⟨hi,rfl⟩
      refine ⟨_,V,rfl,H1.congr (fun j=>?_) (fun j=>rfl),hn,L1,⟨#[],rfl,rfl,fun i y hy=>by cases hy⟩⟩
      show Qpt (match Qpt (Qg D m.tk m.es) i with
       | some (.cells T ys)=>(i,.cells T (setL ys 0 (Je D m.tk [.one (.ptr i 0)])))::Qg D m.tk m.es
       | _=>Qg D m.tk m.es) j=_
      rw [show Qpt (Qg D m.tk m.es) i=some (.cells T2 ys) from hl]
      rfl
    ·cases hx
  ·cases hx
 ·cases hx
variable (D)
def Zv {α β:Type}:Option (α⊕β)→Option α
 | some (.inl a)=>some a
 | _=>none
def Qn6 (tb:List (Nat×PF U)):Qqo U:=fun _ c args m=>match c with
 | .fn f=>match Qpt tb f,args with
  | some pf,.one (.ptr i off)::rest=>cond (Nat.beq off 0) (match Qku D m i pf.bx,YN m.tk rest with
   | some (b,rs),some rest'=>cond (Qm6 m i rs pf.bx) (match Qdr D pf.args rest' with
    | some v=>some ⟨fun k _=>Option.bind (Zv (pf.m b v)) fun r=>k (Qav pf.res r.2) (Qe7 m i rs pf.bx r.1)⟩
    | none=>none) none
   | _,_=>none) none
  | _,_=>none
 | _=>none
variable {D}
theorem Kc (hD:D.OK) {P:Program} {tb:List (Nat×PF U)} {W:Wd} (h:AllT (WU D W P) tb):WN W D P (Qn6 D tb):=by
 intro Y c args m xo hY hx
 obtain ⟨xo',h',hr⟩:∃ xo',Qks D tb Y c args m=some xo'∧∀ ⦃β:Type⦄ (k:TTV U→TMe U→Option β) (d:Value→TMe U→Option β) (r:β),xo.run k d=some r→xo'.run k d=some r:=by
  unfold Qn6 at hx
  unfold Qks
  split at hx
  ·split at hx
   ·rename_i f pf i off rest hlk
    try (dsimp only;rw [hlk];dsimp only)
    cases hoff:Nat.beq off 0 with
    | false=>rw [hoff] at hx;cases hx
    | true =>
     rw [hoff,C7] at hx
     rw [C7]
     split at hx
     ·rename_i b rs rest' hrd hs
      try (rw [hrd,hs];dsimp only)
      cases hok:Qm6 m i rs pf.bx with
      | false=>rw [hok] at hx;cases hx
      | true =>
       rw [hok,C7] at hx
       rw [C7]
       split at hx
       ·rename_i v hv
        cases hx
        try rw [hv]
        refine ⟨_,Z,fun β k d r hk=>?_⟩
        obtain ⟨y,hy,hk⟩:=YS (show Option.bind (Zv (pf.m b v)) _=some r from hk)
        have hm:pf.m b v=some (.inl y):=by
         unfold Zv at hy
         split at hy
         ·rename_i a ha;cases hy;exact ha
         ·cases hy
        show Option.bind (pf.m b v) _=some r
        rw [hm]
        exact hk
       ·cases hx
     ·cases hx
   ·cases hx
  ·cases hx
 intro β k d r hk
 exact Kd hD h Y c args m xo' hY h' k d r (hr k d r hk)
end
end
noncomputable section
open Go.RowKit Go.Shelf
theorem builder_String {P:Program} {ρ:Ren} (L:Lays.n169 P ρ) (X:Builder.Extra P ρ) (b g cap:Nat) (cur:Array Value) (l:List UInt8) (w:World)
  (hc:w.cell? ⟨b,1,none⟩=some (.slice (some ⟨g,0,none⟩) l.length cap)) (hg:w.heap[g]?=some (.cells cur (ρ.t 5) (0,0))) (hl0:l.length ≠ 0) (hnc:l.length≤cap) (hcm:cap≤maxLen) (hcs:cur.size=cap * 1)
  (hcells:∀ (j:Nat) (x:UInt8),l[j]?=some x→w.cell? ⟨g,j,none⟩=some (.int .u8 x.toNat)) :
  Calls P (ρ.f 169) #[.pointer (some ⟨b,0,none⟩)] w fun e w'=>e=.returned (.string ⟨l.toArray⟩)∧w'=w.drew.freeze ⟨g,0,none⟩ l.length:=by
 have h0:l ≠ []:=by simpa using hl0
 have c1:w.drew.cell? ⟨b,1,none⟩=some (.slice (some ⟨g,0,none⟩) l.length cap):=hc
 have hSD:(Builtin.unsafeSliceData_ #[(ρ.t 37)] (ρ.t 127) #[.slice (some ⟨g,0,none⟩) l.length cap]).run P w.drew=.ok (.pointer (some ⟨g,0,none⟩)) w.drew :=
  Lib.run_unsafeSliceData_row _ _ _ _ _ _ (by omega)
 have hUS:(Builtin.unsafeString_ #[(ρ.t 127),(ρ.t 3)] (ρ.t 9) #[.pointer (some ⟨g,0,none⟩),.int .i64 l.length]).run P w.drew=.ok (.string ⟨l.toArray⟩) (w.drew.freeze ⟨g,0,none⟩ l.length):=by
  refine Lib.run_unsafeString_row w.drew (ρ.t 127) (ρ.t 3) (ρ.t 9) (ρ.t 5) L.t127 X.cellsByte g cur.size (by have hg':w.drew.heap[g]?=some (.cells cur (ρ.t 5) (0,0)):=hg;simp [World.shape?,hg']) l h0 (by omega) (by unfold maxLen at hcm;omega) ?_
  intro j x hx
  rw [Zp,P4]
  exact hcells j x hx
 have mixed:=L.mixed
 have t72:=L.t72;have a72:=L.a72;have z72:=L.z72;have v72:=L.v72;have u72:=run_underlying L.t72
 have t70:=L.t70;have a70:=L.a70;have z70:=L.z70;have v70:=L.v70;have u70:=run_underlying L.t70
 have t37:=L.t37;have a37:=L.a37;have z37:=L.z37;have v37:=L.v37;have u37:=run_underlying L.t37
 have t127:=L.t127;have a127:=L.a127;have z127:=L.z127;have v127:=L.v127;have u127:=run_underlying L.t127
 have t3:=L.t3;have a3:=L.a3;have z3:=L.z3;have v3:=L.v3;have u3:=run_underlying L.t3
 have t9:=L.t9;have a9:=L.a9;have z9:=L.z9;have v9:=L.v9;have u9:=run_underlying L.t9
 have t5:=X.t5;have a5:=X.a5;have z5:=X.z5;have v5:=X.v5;have u5:=run_underlying X.t5
 go_enter L.f169,Body.n169_ntmps ρ
 go_wp2
 go_region_o
 all_goals (go_wp2;go_ret;exact ⟨rfl,rfl⟩)
theorem Q45 (w:World) (g n k:Nat) (hk:k ≠ g):(w.drew.freeze ⟨g,0,none⟩ n).heap[k]?=w.heap[k]?:=by
 unfold World.freeze
 split
 ·rfl
 ·show (w.drew.heap.modify g _)[k]?=_
  rw [Ps,C8 (fun e=>hk e.symm)]
  rfl
theorem Qbh (w:World) (g n:Nat):(w.drew.freeze ⟨g,0,none⟩ n).heap.size=w.heap.size:=by
 unfold World.freeze
 split
 ·rfl
 ·show (w.drew.heap.modify g _).size=_
  rw [Array.size_modify];rfl
theorem frz_cell (w:World) (g n b o:Nat):(w.drew.freeze ⟨g,0,none⟩ n).cell? ⟨b,o,none⟩=w.cell? ⟨b,o,none⟩:=by
 unfold World.freeze
 split
 ·rfl
 ·simp only [World.cell?,Ps]
  by_cases e:g=b
  ·rw [Cc e]
   have e2:w.drew.heap[b]?=w.heap[b]?:=rfl
   rw [e2]
   cases hb:w.heap[b]? with
   | none=>rfl
   | some x=>cases x <;> rfl
  ·rw [C8 e];rfl
theorem frz_dk (w:World) (g n b:Nat) (ds:Option (List Deferred)) (h:w.heap[b]?=some (.deferred ds)):(w.drew.freeze ⟨g,0,none⟩ n).heap[b]?=some (.deferred ds):=by
 unfold World.freeze
 split
 ·exact h
 ·show (w.drew.heap.modify g _)[b]?=_
  rw [Ps]
  by_cases e:g=b
  ·rw [Cc e]
   show Option.map _ w.heap[b]?=_
   rw [h];rfl
  ·rw [C8 e];exact h
theorem frz_os (w:World) (g n:Nat):(w.drew.freeze ⟨g,0,none⟩ n).os=w.os∧(w.drew.freeze ⟨g,0,none⟩ n).tape=w.tape∧(w.drew.freeze ⟨g,0,none⟩ n).output=w.output:=by
 unfold World.freeze
 split <;> exact ⟨rfl,rfl,rfl⟩
theorem HRel.frz {E:Env} {V:Vu} {hp:List (Nat×HB)} {tk:List (Nat×Option Tok)} {w:World} (h:HRel E V hp tk w) {g n:Nat} (hM:E.w0.heap.size≤g∨E.M g)
  (hb:∀ j B,Qpt hp j=some B→V.ι j ≠ g) (ht:∀ j T,Qpt tk j=some (some T)→(V.κ j T.n).ownBlock ≠ some g):HRel E V hp tk (w.drew.freeze ⟨g,0,none⟩ n)∧V.Le V w (w.drew.freeze ⟨g,0,none⟩ n):=by
 have L:V.Le V w (w.drew.freeze ⟨g,0,none⟩ n):=⟨Ck _,fun _ _=>rfl,fun _ _=>Ck _,fun _ _ _ _=>rfl,fun _ _ h=>h,fun b o _=>frz_cell w g n b o,fun b o _ ds hd=>frz_dk w g n b ds hd⟩
 obtain ⟨o1,o2,o3⟩:=frz_os w g n
 refine ⟨⟨⟨o1.trans h.ext.os,o2.trans h.ext.tape,o3.trans h.ext.output,by rw [Qbh];exact h.ext.size,fun k hk hkM=>?_⟩,h.le0.trans L,fun b o hs=>by rw [Qbh];exact h.sz b o hs,h.sub,fun i B hi=>?_,h.inj,h.new,fun i T hi=>?_,h.tki⟩,L⟩
 ·have hkg:k ≠ g:=fun e=>by
   subst e
   rcases hM with hM | hM
   ·exact absurd hk (Nat.not_lt.2 hM)
   ·exact hkM hM
  rw [Q45 w g n k hkg];exact h.ext.block k hk hkM
 ·obtain ⟨h1,o,h2,h3⟩:=h.own i B hi
  exact ⟨h1,o,by rw [Q45 w g n _ (hb i B hi)];exact h2,h3.mono L⟩
 ·obtain ⟨h1,h2,xs,h3,h4⟩:=h.tok i T hi
  exact ⟨h1,h2,xs,h3.keepW rfl (D5 h3.1 fun k hk=>Q45 w g n k fun e=>ht i T hi (by rw [hk,e])) L.lx,h4⟩
section
variable {U:Univ} (D:Codec U)
structure BytR (B:BytOf U) where
 rg:List (U.R B.t)→Bool
 ok:∀ l,rg l=true→(U.E B.t).encL l=Qqi (B.sb l)
def Qm3 (f E0:Nat) (B:BytOf U) (R:BytR B):Qqo U:=fun _ c args m=>match c with
 | .fn g=>match args with
  | [.one (.ptr i off)]=>cond (Nat.beq g f&&Nat.beq off 0) (match WY D m.es i 1 1 with
   | some [.one (.app j ver)]=>match cur m.tk j ver with
    | some T=>match Ge T.t B.t T.l with
     | some l=>cond ((Nat.beq T.E E0&&!(Nat.beq E0 0))&&!(m.es.any (Ev.hasApp j (QY m.tk j)))) (some ⟨fun k _=>Q7 (cond (R.rg l) (!l.isEmpty) false) (k (.v (.one (.c (.str (B.sb l))))) ⟨m.es,(j,⟨0,B.t,l,QY m.tk j⟩)::m.tk,m.nx⟩)⟩) none
     | none=>none
    | none=>none
   | _=>none) none
  | _=>none
 | _=>none
variable {D}
theorem strH_ok (hD:D.OK) {W:Wd} {P:Program} {f E0:Nat} {B:BytOf U} {R:BytR B} (hen:Qc P f)
  (hs:∀ (b g cap:Nat) (cur:Array Value) (l:List UInt8) (w:World),w.cell? ⟨b,1,none⟩=some (.slice (some ⟨g,0,none⟩) l.length cap)→w.heap[g]?=some (.cells cur E0 (0,0))→l.length ≠ 0→l.length≤cap→cap≤maxLen→cur.size=cap * 1 →
   (∀ (j:Nat) (x:UInt8),l[j]?=some x→w.cell? ⟨g,j,none⟩=some (.int .u8 x.toNat))→Calls P f #[.pointer (some ⟨b,0,none⟩)] w fun e w'=>e=.returned (.string ⟨l.toArray⟩)∧w'=w.drew.freeze ⟨g,0,none⟩ l.length):WN W D P (Qm3 D f E0 B R):=by
 intro Y c args m xo hY hx
 unfold Qm3 at hx
 split at hx
 ·rename_i g0
  split at hx
  ·rename_i i off
   cases hc:(Nat.beq g0 f&&Nat.beq off 0) with
   | false=>rw [hc] at hx;cases hx
   | true =>
    rw [hc,C7] at hx
    obtain ⟨c1,c2⟩:=C0.1 hc
    have e1:=C4 c1;have e2:=C4 c2
    subst e1 e2
    split at hx
    ·rename_i j ver hrd
     split at hx
     ·rename_i T hcur
      split at hx
      ·rename_i l hl
       obtain ⟨et,el⟩:=YQ hl
       obtain ⟨TE,Tt,Tl,Tv⟩:=T
       dsimp only at et el
       subst et
       subst el
       cases hcd:((Nat.beq TE E0&&!(Nat.beq E0 0))&&!(m.es.any (Ev.hasApp j (QY m.tk j)))) with
       | false=>rw [hcd] at hx;cases hx
       | true =>
        rw [hcd] at hx;cases hx
        obtain ⟨d12,d3⟩:=C0.1 hcd
        obtain ⟨d1,d2⟩:=C0.1 d12
        have eE:=C4 d1
        have eN:Nat.beq E0 0=false:=by simpa using d2
        subst eE
        intro β k d r hrun
        obtain ⟨hg,hrun⟩:=KM (show Q7 _ _=some r from hrun)
        have hrg:R.rg l=true:=QU hg
        have hne:l.isEmpty=false:=by simpa using QO hg
        have henc:=R.ok l hrg
        have hlen:(B.sb l).length=((U.E B.t).encL l).length:=by rw [henc,Q9k]
        have hl0:(B.sb l).length ≠ 0:=by
         rw [hlen,Enc.len]
         cases l with
         | nil=>cases hne
         | cons x r=>simp
        have hlk:Qpt m.tk j=some ⟨TE,B.t,l,Tv⟩:=by
         unfold cur at hcur
         split at hcur
         ·rename_i T0 h0
          cases hq:Nat.beq T0.ver ver with
          | false=>rw [hq] at hcur;cases hcur
          | true=>rw [hq] at hcur;cases hcur;exact h0
         ·cases hcur
        have htok:Qpt (m.er D).tk j=some (some ⟨TE,1,(B.sb l).length,[]⟩):=by
         show Qpt (QI TTok.erO m.tk) j=_
         rw [QL,hlk]
         show some (TTok.erO (⟨TE,B.t,l,Tv⟩:TTok U))=_
         rw [K3 eN]
         show some (some (⟨TE,(U.E B.t).sz,((U.E B.t).encL l).length,[]⟩:Tok))=_
         rw [B.sz,hlen]
        obtain ⟨T2,ys,q1,q2,q3⟩:=Yg hD (tk:=m.tk) hrd
        have hy:ys[1]?=some (CA.app j 1 (Qqi (B.sb l))):=by
         have h1:((ys.drop 1).take 1)[0]?=ys[1]?:=by simp
         rw [← h1,q3]
         show some (match cur m.tk j ver with
          | some T=>CA.app j (U.E T.t).sz ((U.E T.t).encL T.l)
          | none=>CA.any)=_
         rw [hcur]
         show some (CA.app j (U.E B.t).sz ((U.E B.t).encL l))=_
         rw [B.sz,henc]
        refine ⟨.val (.v (.one (.c (.str (B.sb l))))) ⟨m.es,(j,⟨0,B.t,l,QY m.tk j⟩)::m.tk,m.nx⟩,?_,⟨⟨[],Z⟩,⟨[_],Z⟩,Ck _⟩,hrun⟩
        refine YG hen (o:=.val (.v (.one (.d (.v (.string (Qpk (B.sb l))))))) ((⟨m.es,(j,⟨0,B.t,l,QY m.tk j⟩)::m.tk,m.nx⟩:TMe U).er D)) fun E V w vs hP hW H hn ha=>?_
        obtain ⟨u,rfl,hu'⟩:=Q8c ha
        obtain ⟨hi,rfl⟩:i < V.nx∧u=.pointer (some ⟨V.ι i,0,none⟩):=hu'
        obtain ⟨-,o,ho,vs,rfl,hvs⟩:=H.own _ _ (show Qpt (m.er D).hp i=some (.cells T2 ys) from q1)
        obtain ⟨u1,hu1,hr1⟩:=hvs.2 1 _ hy
        obtain ⟨-,hcu,rfl,hrd1⟩:j < V.nx∧(Qqi (B.sb l)).length≤V.cu j∧u1=V.κ j (Qqi (B.sb l)).length∧Reads V.S w (C.sl 1 (Qqi (B.sb l))) u1:=hr1
        rw [Q9k] at hu1 hrd1
        obtain ⟨t1,t2,xs,t3,t4⟩:=H.tok j _ htok
        dsimp only at t2 t3 t4
        obtain ⟨g,cap,cu0,hv,-,hgc,hnc,hcm,hcs,-⟩:∃ g cap cur,V.κ j (B.sb l).length=.slice (some ⟨g,0,none⟩) (B.sb l).length cap∧0≤g∧w.heap[g]?=some (.cells cur TE (0,0))∧(B.sb l).length≤cap∧cap≤maxLen∧cur.size=cap * 1∧cur.toList.take ((B.sb l).length * 1)=xs:=by
         rcases t3.1.2 with ⟨_,hz⟩ | hr
         ·exact absurd hz hl0
         ·exact hr
        have hown:(V.κ j (B.sb l).length).ownBlock=some g:=by rw [hv];rfl
        obtain ⟨t5,t6,t7⟩:=t4 g hown
        rw [hv] at hu1 hrd1
        have hcells:∀ (q:Nat) (x:UInt8),(B.sb l)[q]?=some x→w.cell? ⟨g,q,none⟩=some (.int .u8 x.toNat):=by
         generalize hes:Qqi (B.sb l)=es at hrd1
         have hel:es.length=(B.sb l).length:=by rw [← hes,Q9k]
         generalize hv2:Value.slice (some ⟨g,0,none⟩) (B.sb l).length cap=v2 at hrd1
         cases hrd1 with
         | sl _ _ a cap2 b0 off0 ff hcap haa hll hcc hss hrr =>
          have ea:=haa (by intro e;rw [e] at hel;exact hl0 hel.symm)
          injection hv2 with e1 e2 e3
          rw [ea] at e1
          injection e1 with e1
          injection e1 with e4 e5
          subst e4 e5
          intro q x hq
          have hq':es[q]?=some [C.v (.int .u8 x.toNat)]:=by rw [← hes];unfold Qqi;rw [Cl,hq];rfl
          have h1:=hcc q _ 0 _ hq' rfl
          have h2:=hrr q _ 0 _ hq' rfl
          rw [SC,PV,P4] at h1
          generalize ff q 0=fv at h1 h2
          cases h2
          exact h1
        refine (hs (V.ι i) g cap cu0 (B.sb l) w (by rw [J9 ho];exact hu1) hgc hl0 hnc hcm hcs hcells).mono ?_
        rintro e w' ⟨rfl,rfl⟩
        have hst:=YP (D:=D) (tk:=m.tk) (tk':=(j,(⟨0,B.t,l,QY m.tk j⟩:TTok U))::m.tk) (es:=m.es) (UH fun hp=>by
         have:m.es.any (Ev.hasApp j (QY m.tk j))=true:=hp
         rw [this] at d3;cases d3)
        have hhp:∀ k B',Qpt ((⟨m.es,(j,⟨0,B.t,l,QY m.tk j⟩)::m.tk,m.nx⟩:TMe U).er D).hp k=some B'→∃ A,Qpt (m.er D).hp k=some A∧∀ V w o,A.rel V w o→B'.rel V w o:=fun k B' hB=>by
         have ow:=hst k
         have hB':Qpt (Qg D ((j,(⟨0,B.t,l,QY m.tk j⟩:TTok U))::m.tk) m.es) k=some B':=hB
         rw [hB'] at ow
         show ∃ A,Qpt (Qg D m.tk m.es) k=some A∧_
         cases hA:Qpt (Qg D m.tk m.es) k with
         | none=>rw [hA] at ow;exact ow.elim
         | some A=>rw [hA] at ow;exact ⟨A,rfl,fun V w o hr=>BW.rel ow hr⟩
        have htk:∀ k T,Qpt ((⟨m.es,(j,⟨0,B.t,l,QY m.tk j⟩)::m.tk,m.nx⟩:TMe U).er D).tk k=some (some T)→k ≠ j∧Qpt (m.er D).tk k=some (some T):=fun k T hT=>by
         have hT':Qpt ((j,(none:Option Tok))::XB m.tk) k=some (some T):=hT
         rw [Q1] at hT'
         by_cases e:j=k
         ·rw [Cc e] at hT';cases hT'
         ·rw [C8 e] at hT';exact ⟨fun h=>e h.symm,hT'⟩
        have H1:=H.weak hhp fun k T hT=>(htk k T hT).2
        obtain ⟨H2,L2⟩:=H1.frz (g:=g) (n:=(B.sb l).length) t5 (fun k B' hB=>by
         obtain ⟨A,hA,-⟩:=hhp k B' hB
         exact t7 k A hA) (fun k T hT hk=>by
         obtain ⟨n1,n2⟩:=htk k T hT
         exact n1 (H.tki k j T _ g n2 htok hk hown))
        exact ⟨_,V,Z,H2,hn,L2,J3 Z⟩
      ·cases hx
     ·cases hx
    ·cases hx
  ·cases hx
 ·cases hx
end
end
noncomputable section
open Go.RowKit
def Tabs (P:Program) (S:Nat→Nat→Prop) (w:World):Prop :=
 ∃ g, P.globalNamed "internal/strconv.uint64pow10" = some g ∧ (∀ o, S g o) ∧ ∀ o, w.cell? ⟨g, o, none⟩ = (Lib.pow10Tab.map fun z => Value.int .u64 z)[o]?
theorem Tabs.mono {P:Program} {S S':Nat→Nat→Prop} {w w':World} (h:Tabs P S w) (hS:∀ b o,S b o→S' b o) (hw:∀ b o,S b o→w'.cell? ⟨b,o,none⟩=w.cell? ⟨b,o,none⟩):Tabs P S' w':=by
 obtain ⟨g,h1,h2,h3⟩:=h
 exact ⟨g,h1,fun o=>hS _ _ (h2 o),fun o=>(hw _ _ (h2 o)).trans (h3 o)⟩
theorem Tabs.is {P : Program} {S : Nat → Nat → Prop} {w : World} (h : Tabs P S w) : Lib.TabIs P w "internal/strconv.uint64pow10" .u64 Lib.pow10Tab := by
 obtain ⟨g,h1,-,h3⟩:=h
 have h0:=h3 0
 unfold Lib.TabIs World.var?
 rw [h1]
 simp only [World.cell?] at h0 h3
 simp only [C1]
 split at h0
 ·rename_i c T f hc
  rw [hc]
  refine congrArg some (PD fun o=>?_)
  have:=h3 o
  rw [hc] at this
  simpa using this
 ·have:(Lib.pow10Tab.map fun z=>Value.int .u64 z)[0]?=some (.int .u64 1):=rfl
  rw [this] at h0;cases h0
theorem Tabs.of {P : Program} {S : Nat → Nat → Prop} {w : World} {g : Nat} (hg : P.globalNamed "internal/strconv.uint64pow10" = some g) (hS : ∀ o, S g o) (h : Lib.TabIs P w "internal/strconv.uint64pow10" .u64 Lib.pow10Tab) : Tabs P S w := by
 refine ⟨g,hg,hS,fun o=>?_⟩
 unfold Lib.TabIs World.var? at h
 rw [hg] at h
 simp only [C1] at h
 split at h
 ·rename_i c T f hc
  cases h
  simp [World.cell?,hc]
 ·cases h
theorem Tabs.blk {P : Program} {S : Nat → Nat → Prop} {w : World} (h : Tabs P S w) : ∃ g, P.globalNamed "internal/strconv.uint64pow10" = some g ∧ (∀ o, S g o) ∧ (∀ o, w.cell? ⟨g, o, none⟩ = (Lib.pow10Tab.map fun z => Value.int .u64 z)[o]?) ∧ ∀ ds, w.heap[g]? ≠ some (Obj.deferred ds) := by
 obtain ⟨g,h1,h2,h3⟩:=h
 refine ⟨g,h1,h2,h3,fun ds hd=>?_⟩
 have h0:=h3 0
 simp only [World.cell?] at h0
 rw [hd] at h0
 have:(Lib.pow10Tab.map fun z=>Value.int .u64 z)[0]?=some (.int .u64 1):=rfl
 rw [this] at h0;cases h0
def Qqp (P:Program):Wd where
 p:=Tabs P
 mono:=fun V V' w w' hL h=>h.mono hL.S hL.cell
 mono2:=fun S S' w w' hS hw h=>by
  obtain ⟨g,h1,h2,h3,h4⟩:=h.blk
  refine ⟨g,h1,fun o=>hS g o h4 (h2 o),fun o=>?_⟩
  rw [← h3 o]
  simp only [World.cell?]
  rw [hw g h4]
end
noncomputable section
open Go.RowKit Go.Shelf
set_option maxRecDepth 100000
theorem Kj {w w':World} (h:Below w.heap.size w w'):Gv w w':=⟨h.os,h.tape,h.output,h.size,fun k hk _=>h.block k hk⟩
theorem Zt {W:Wd} {P:Program} {f:FuncId} {vs0:List Value} {res:TV} (v:Value) (hen:Qc P f) (hres:∀ V w,res.rel V w v) (h:∀ S w,W.p S w→Calls P f vs0.toArray w fun e w'=>e=.returned v∧Gv w w'):FunW W P f (vs0.map fun a=>.one (.d (.v a))) res:=by
 refine ⟨hen,fun S w vs hS hW hargs=>?_⟩
 have hsz:vs.size=vs0.length:=by rw [hargs.1,Cm]
 have hvs:vs=vs0.toArray:=by
  apply PD
  intro k
  cases hk:vs0[k]? with
  | none =>
   have:=Pr.1 hk
   rw [CU (by omega)]
   simp [hk]
  | some a =>
   obtain ⟨u,h1,h2⟩:=hargs.2 k (.one (.d (.v a))) (by rw [Cl,hk];rfl)
   have e:u=a:=by cases h2;rfl
   rw [h1,e]
   simp [hk]
 rw [hvs]
 exact (h S w hW).mono fun e w' ⟨he,hx⟩=>⟨v,S,he,hx,fun _ _ h=>h,fun b o h=>⟨.inl h,Cj (hS b o h) hx.size⟩,hres _ _⟩
abbrev W0:Wd:=Qqp Tryz.prog
theorem Wd.tabs {S:Nat→Nat→Prop} {w:World} (h:W0.p S w):Tabs Tryz.prog S w:=h
section
variable {U:Univ}
def Qp6 (A B:FuncId→List (TAV U)→Option (KR U)) (f:FuncId) (args:List (TAV U)):Option (KR U):=match A f args with
 | some k=>some k
 | none=>B f args
theorem kOr_ok {W:Wd} {D:Codec U} {P:Program} {A B:FuncId→List (TAV U)→Option (KR U)} (hA:Q0s W D P A) (hB:Q0s W D P B):Q0s W D P (Qp6 A B):=by
 intro f args kr a h ha
 unfold Qp6 at h
 split at h
 ·rename_i k hk;cases h;exact hA f args _ a hk ha
 ·exact hB f args _ a h ha
end
def k62:KF UV:=⟨[.int .i64],[.str],fun (n:Int)=>Q7 (cond (decide (-9223372036854775808≤n)) (decide (n≤9223372036854775807)) false) (some (Lib.itoa n))⟩
theorem en_62:Qc Tryz.prog 62:=enters_of Tryz.func62 (by kernel_rfl) rfl
theorem Uv:Yy DV W0 Tryz.prog 62 k62:=⟨rfl,fun (v:Int) (r:Qr7) h=>by
 obtain ⟨hg,h⟩:=KM (show Q7 _ _=some r from h)
 cases h
 have h0:-9223372036854775808≤v:=CG (QU hg)
 have h1:v≤9223372036854775807:=CG (QO hg)
 refine Zt (vs0:=[.int .i64 v]) (res:=Qqr (Lib.itoa v)) (.string (Qpk (Lib.itoa v))) en_62 (fun V w=>J3 Z) fun S w hW=>?_
 refine Calls.mono (Any.strconv_Itoa Tryz.lays171 v h0 h1 w (Wd.tabs hW).is) ?_
 rintro e w' ⟨rfl,k,os,rfl⟩
 exact ⟨rfl,⟨rfl,rfl,rfl,(by simp [Go.Sort.grow,World.drewN]),fun k hk _=>by simp [Go.Sort.grow,World.drewN,P5 hk]⟩⟩⟩
def k122:KF UV:=⟨[.str,.int .u8],[.int .i64],fun (v:Qr7×Int)=>some (Lib.indexByte v.1 v.2.toNat.toUInt8)⟩
theorem en_122:Qc Tryz.prog 122:=enters_of Tryz.func122 (by kernel_rfl) rfl
theorem Q98:Yy DV W0 Tryz.prog 122 k122:=⟨rfl,fun (v:Qr7×Int) (r:Int) h=>by
 cases h
 refine Zt (vs0:=[.string (Qpk v.1),.int .u8 v.2]) (res:=Qqs (Lib.indexByte v.1 v.2.toNat.toUInt8)) (.int .i64 (Lib.indexByte v.1 v.2.toNat.toUInt8)) en_122 (fun V w=>J3 Z) fun S w hW=>?_
 refine Calls.mono (Any.strings_IndexByte Tryz.lays137 (Qpk v.1) v.2 w) ?_
 rintro e w' ⟨rfl,rfl⟩
 exact ⟨Z,ExtM.refl _ _⟩⟩
def k126:KF UV:=⟨[.str,.str],[.bool],fun (v:Qr7×Qr7)=>some (Lib.hasPrefix v.1 v.2)⟩
theorem en_126:Qc Tryz.prog 126:=enters_of Tryz.func126 (by kernel_rfl) rfl
theorem k126_ok:Yy DV W0 Tryz.prog 126 k126:=⟨rfl,fun (v:Qr7×Qr7) (r:Bool) h=>by
 cases h
 refine Zt (vs0:=[.string (Qpk v.1),.string (Qpk v.2)]) (res:=Qqt (Lib.hasPrefix v.1 v.2)) (.bool (Lib.hasPrefix v.1 v.2)) en_126 (fun V w=>J3 Z) fun S w hW=>?_
 refine Calls.mono (Any.strings_HasPrefix Tryz.lays99 (Qpk v.1) (Qpk v.2) w) ?_
 rintro e w' ⟨rfl,rfl⟩
 exact ⟨Z,ExtM.refl _ _⟩⟩
def k146:KF UV:=⟨[.str,.str],[.str],fun (v:Qr7×Qr7)=>Q7 (cond (Nat.ble v.1.length 1000000000) (cond (Nat.ble v.2.length 1000) (v.2.all fun b=>decide (b.toNat < 128)) false) false) (some (Lib.trimS v.1 v.2))⟩
theorem en_146:Qc Tryz.prog 146:=enters_of Tryz.func146 (by kernel_rfl) rfl
theorem k146_ok:Yy DV W0 Tryz.prog 146 k146:=⟨rfl,fun (v:Qr7×Qr7) (r:Qr7) h=>by
 obtain ⟨hg,h⟩:=KM (show Q7 _ _=some r from h)
 cases h
 have h0:=C3 (QU hg)
 have h1:=C3 (QU (QO hg))
 have h2:=QO (QO hg)
 refine Zt (vs0:=[.string (Qpk v.1),.string (Qpk v.2)]) (res:=Qqr (Lib.trimS v.1 v.2)) (.string (Qpk (Lib.trimS v.1 v.2))) en_146 (fun V w=>J3 Z) fun S w hW=>?_
 refine Calls.mono (Any.strings_Trim_laid Tryz.lays160 (by kernel_rfl) (Qpk v.1) (Qpk v.2) w (by rw [YA];omega) (by rw [YA];omega) (ascii_of_all h2)) ?_
 rintro e w' ⟨rfl,hb⟩
 exact ⟨Z,Kj hb⟩⟩
theorem en_147:Qc Tryz.prog 147:=enters_of Tryz.func147 (by kernel_rfl) rfl
def atK:FuncId→List (TAV UV)→Option (KR UV):=fun f args=>cond (Nat.beq f 147) (match args with
 | [.one (.c (.str s))]=>some ⟨Int,Q7 (cond (Nat.ble s.length 18) (Lib.atoi s).isSome false) (some ((Lib.atoi s).getD 0)),fun n=>.tup [.one (.c (.v (.int .i64 n))),.one (.c (.v .nilIface))]⟩
 | _=>none) none
theorem Qm2 {a b:Value} {x y:AV} (h1:∀ V w,x.rel V w a) (h2:∀ V w,y.rel V w b):∀ V w,(TV.tup [x,y]).rel V w (.tuple #[a,b]):=fun V w =>
 ⟨#[a,b],rfl,rfl,fun i z hz=>by
  match i,hz with
  | 0,hz=>cases hz;exact ⟨a,rfl,h1 V w⟩
  | 1,hz=>cases hz;exact ⟨b,rfl,h2 V w⟩⟩
theorem atK_ok:Q0s W0 DV Tryz.prog atK:=by
 intro f args kr a h ha
 unfold atK at h
 cases hb:Nat.beq f 147 with
 | false=>rw [hb] at h;cases h
 | true =>
  rw [hb,C7] at h
  have:=C4 hb
  subst this
  split at h
  ·rename_i s
   cases h
   obtain ⟨hg,h⟩:=KM (show Q7 _ _=some a from ha)
   have h0:=C3 (QU hg)
   obtain ⟨n,hn⟩:=Option.isSome_iff_exists.1 (QO hg)
   have e:a=n:=by
    have:(Lib.atoi s).getD 0=a:=Cw h
    rw [← this,hn];rfl
   subst e
   refine ⟨[.one (.d (.v (.string (Qpk s))))],fun tk=>.cons (.one (.d _)) .nil,fun tk=>?_⟩
   refine Zt (vs0:=[.string (Qpk s)]) (.tuple #[.int .i64 a,.nilIface]) en_147 (Qm2 (fun V w=>Reads.v _ Z) (fun V w=>Reads.v _ Z)) fun S w hW=>?_
   refine Calls.mono (Any.strconv_Atoi DB (Qpk s) a (by rw [YA];exact h0) hn w) ?_
   rintro e w' ⟨rfl,t,rfl⟩
   exact ⟨Z,Kj (Lib.bytesWorld_below _ _ _)⟩
  ·cases h
theorem join_funW (xs:List (List UInt8)) (sep:List UInt8) (h:(cond (Nat.ble xs.length 1000000) (Nat.ble (Lib.join xs sep).length 1000000000) false)=true):FunW (Qqp Tryz.prog) Tryz.prog 141 [.one (.d (.sl 1 (xs.map Q5e))),.one (ZR sep)] (Qqr (Lib.join xs sep)):=by
 have h0:=C3 (QU h)
 have h1:=C3 (QO h)
 have hmap:(xs.map Qpk).map (·.data.toList)=xs:=by
  rw [CJ]
  have:((fun x:ByteArray=>x.data.toList) ∘ Qpk)=id:=rfl
  rw [this,List.map_id]
 refine ⟨enters_of Tryz.func141 (by kernel_rfl) rfl,fun S w vs hS _ hargs=>?_⟩
 obtain ⟨u0,hu0,r0⟩:=hargs.2 0 _ rfl
 obtain ⟨u1,hu1,r1⟩:=hargs.2 1 _ rfl
 have e1:u1=.string (Qpk sep):=by cases r1;rfl
 subst e1
 have hvs:vs=#[u0,.string (Qpk sep)]:=by
  apply PD
  intro k
  match k with
  | 0=>rw [hu0];rfl
  | 1=>rw [hu1];rfl
  | k+2=>rw [CU (by rw [hargs.1];simp)];simp
 rw [hvs]
 have fin:∀ (e:Ending) (w':World),e=.returned (.string (Qpk (Lib.join xs sep)))∧Below w.heap.size w w'→∃ v S',e=.returned v∧Gv w w'∧(∀ b o,S b o→S' b o)∧(∀ b o,S' b o→(S b o∨w.heap.size≤b)∧b < w'.heap.size)∧(Qqr (Lib.join xs sep)).rel (Yn S') w' v :=
  fun e w' ⟨he,hb⟩=>⟨_,S,he,Kj hb,fun _ _ h=>h,fun b o h=>⟨.inl h,Cj (hS b o h) hb.size⟩,J3 rfl⟩
 have rd:Reads S w (.sl 1 (xs.map Q5e)) u0:=r0
 generalize hes:xs.map Q5e=es at rd
 cases rd with
 | sl _ _ a cap b off f hcap ha hl hc hs hr =>
  subst hes
  rw [Cm] at hcap ⊢
  cases xs with
  | nil =>
   refine Calls.mono (Any.strings_Join_none Xq Tryz.bx156 a cap (Qpk sep) w) ?_
   rintro e w' ⟨rfl,rfl⟩
   exact fin _ _ ⟨Z,Below.refl _ _⟩
  | cons x r =>
   have ha':=ha (by simp)
   subst ha'
   have hget:∀ (j:Nat) (y:List UInt8),(x::r)[j]?=some y→w.cell? ⟨b,off+j,none⟩=some (.string (Qpk y))∧S b (off+j):=fun j y hy=>by
    have hj:((x::r).map Q5e)[j]?=some (Q5e y):=by rw [Cl,hy];rfl
    have h3:=hc j (Q5e y) 0 _ hj rfl
    have h4:=hs j (Q5e y) 0 _ hj rfl
    have h5:=hr j (Q5e y) 0 _ hj rfl
    rw [SC,PV] at h3 h4
    have e5:f j 0=.string (Qpk y):=by
     generalize hfv:f j 0=fv at h5
     cases h5;rfl
    rw [e5] at h3
    exact ⟨h3,h4⟩
   have key:=Any.strings_Join Xq Tryz.bx156 b off cap ((x::r).map Qpk) (Qpk sep) w (fun j y hy=>by
    rw [Cl] at hy
    cases hz:(x::r)[j]? with
    | none=>rw [hz] at hy;cases hy
    | some z=>rw [hz] at hy;cases hy;exact (hget j z hz).1) (hS _ _ (hget 0 x rfl).2) (by rw [Cm];omega) (by rw [Cm];exact hcap) (by rw [hmap];exact Ca h1 (by decide))
   rw [hmap,Cm] at key
   exact Calls.mono key fin
def k141:KF UV:=⟨[.sl .t9,.str],[.str],fun (v:List Qr7×Qr7)=>Q7 (cond (Nat.ble v.1.length 1000000) (Nat.ble (Lib.join v.1 v.2).length 1000000000) false) (some (Lib.join v.1 v.2))⟩
theorem Qfs:Yy DV W0 Tryz.prog 141 k141:=⟨rfl,fun (v:List Qr7×Qr7) (r:Qr7) h=>by
 obtain ⟨hg,h⟩:=KM (show Q7 _ _=some r from h)
 cases h
 exact join_funW v.1 v.2 hg⟩
def Qir (n:Int):Option (List UInt8):=Q7 (cond (decide (-9223372036854775808≤n)) (decide (n≤9223372036854775807)) false) (some (Lib.itoa n))
def Qdb (s:List UInt8) (c:Int):Option Int:=some (Lib.indexByte s c.toNat.toUInt8)
def Qnu (s p:List UInt8):Option Bool:=some (Lib.hasPrefix s p)
def Qkz (s c:List UInt8):Option (List UInt8):=Q7 (cond (Nat.ble s.length 1000000000) (cond (Nat.ble c.length 1000) (c.all fun b=>decide (b.toNat < 128)) false) false) (some (Lib.trimS s c))
def Qnt (l:List (List UInt8)) (s:List UInt8):Option (List UInt8):=Q7 (cond (Nat.ble l.length 1000000) (Nat.ble (Lib.join l s).length 1000000000) false) (some (Lib.join l s))
theorem en_112:Qc Tryz.prog 112:=enters_of Tryz.func112 (by kernel_rfl) rfl
theorem en_30:Qc Tryz.prog 30:=enters_of Tryz.func30 (by kernel_rfl) rfl
theorem Qlw:WN W0 DV Tryz.prog (Qox DV 112 62):=ccH_ok Ql en_112 (fun b w h=>Any.Builder_copyCheck_used DA Tryz.bx156.toX72 b w h) (fun b w h h2 h3=>Any.Builder_copyCheck_fresh DA Tryz.bx156.toX72 b w h h2 h3)
def rgV:BytR Qoy where
 rg:=fun l=>(l:List Byt).all fun x=>cond (decide (0≤x.n)) (decide (x.n < 256)) false
 ok:=fun l h=>by
  have key:∀ l:List Byt,(l.all fun x=>cond (decide (0≤x.n)) (decide (x.n < 256)) false)=true→l.map bytC=Qqi (l.map Byt.u8):=fun l h=>by
   unfold Qqi
   rw [CJ]
   refine Cx fun x hx=>?_
   have hx2:=Cg.1 h x hx
   have h0:0≤x.n:=CG (QU hx2)
   have h1:x.n < 256:=CG (QO hx2)
   show [C.v (.int .u8 x.n)]=[C.v (.int .u8 ((UInt8.ofNat x.n.toNat).toNat:Int))]
   rw [UInt8.toNat_ofNat',Nat.mod_eq_of_lt (by omega),Pc h0]
  exact key l h
theorem st_ok:WN W0 DV Tryz.prog (Qm3 DV 30 5 Qoy rgV):=strH_ok Ql en_30 fun b g cap cur l w h1 h2 h3 h4 h5 h6 h7=>builder_String Tryz.lays169 Tryz.bx169 b g cap cur l w h1 h2 h3 h4 h5 h6 h7
end
noncomputable section
open Go.RowKit Go.Shelf
set_option maxRecDepth 100000
theorem Xl:QM Tryz.prog 25 0=some 0:=by kernel_rfl
theorem fo_25_1:QM Tryz.prog 25 1=some 1:=by kernel_rfl
theorem Qg9:QM Tryz.prog 25 2=some 2:=by kernel_rfl
theorem Q2h:QM Tryz.prog 25 3=some 3:=by kernel_rfl
theorem Ki:QM Tryz.prog 25 4=some 4:=by kernel_rfl
theorem Q2g:QM Tryz.prog 82 0=some 0:=by kernel_rfl
theorem Dm:QM Tryz.prog 82 1=some 1:=by kernel_rfl
theorem fo_142_0:QM Tryz.prog 142 0=some 0:=by kernel_rfl
theorem Q49:QM Tryz.prog 142 1=some 1:=by kernel_rfl
theorem fo_155_0:QM Tryz.prog 155 0=some 0:=by kernel_rfl
theorem Qbk:QM Tryz.prog 155 1=some 1:=by kernel_rfl
theorem ZX:QM Tryz.prog 155 2=some 2:=by kernel_rfl
theorem ZW:QM Tryz.prog 155 3=some 3:=by kernel_rfl
theorem fo_155_4:QM Tryz.prog 155 4=some 4:=by kernel_rfl
theorem JY:Jc Tryz.prog 3=some (false,1):=by kernel_rfl
theorem Qc8:Jc Tryz.prog 4=some (false,1):=by kernel_rfl
theorem Q0n:Jc Tryz.prog 9=some (false,1):=by kernel_rfl
theorem Qgs:Jc Tryz.prog 22=some (false,1):=by kernel_rfl
theorem Dx:Jc Tryz.prog 23=some (false,1):=by kernel_rfl
theorem Dw:Jc Tryz.prog 25=some (true,5):=by kernel_rfl
theorem Qk9:Jc Tryz.prog 26=some (false,1):=by kernel_rfl
theorem GS:Jc Tryz.prog 28=some (false,1):=by kernel_rfl
theorem Qc7:Jc Tryz.prog 80=some (false,1):=by kernel_rfl
theorem JE:Jc Tryz.prog 82=some (true,2):=by kernel_rfl
theorem Qkb:Jc Tryz.prog 107=some (true,4):=by kernel_rfl
theorem Q53:Jc Tryz.prog 142=some (true,2):=by kernel_rfl
theorem ag_153:Jc Tryz.prog 153=some (false,1):=by kernel_rfl
theorem ag_155:Jc Tryz.prog 155=some (true,5):=by kernel_rfl
theorem Q52:Jc Tryz.prog 156=some (true,65):=by kernel_rfl
theorem Qeg:QV Tryz.prog 22=some (82,2):=by kernel_rfl
theorem WW:QV Tryz.prog 23=some (25,5):=by kernel_rfl
theorem UT:QV Tryz.prog 80=some (142,2):=by kernel_rfl
theorem z_3:Y3 Tryz.prog 3=some [.int .i64 0]:=by kernel_rfl
theorem Qn1:Y3 Tryz.prog 25=some [.int .i64 0,.int .i64 0,.string ByteArray.empty,.slice none 0 0,.slice none 0 0]:=by kernel_rfl
theorem z_26:Y3 Tryz.prog 26=some [.nilFunc]:=by kernel_rfl
theorem z_28:Y3 Tryz.prog 28=some [.int .i64 0]:=by kernel_rfl
theorem Qch:Y3 Tryz.prog 82=some [.int .i64 0,.slice none 0 0]:=by kernel_rfl
theorem z_107:Y3 Tryz.prog 107=some [.int .i64 0,.int .i64 0,.int .i64 0,.int .i64 0]:=by kernel_rfl
theorem Qe6:Y3 Tryz.prog 142=some [.int .i64 0,.int .i64 0]:=by kernel_rfl
theorem z_155:Y3 Tryz.prog 155=some [.bool false,.bool false,.int .i64 0,.int .i64 0,.int .i64 0]:=by kernel_rfl
theorem Qhg:Y3 Tryz.prog 156=some [.bool false,.bool false,.int .i64 0,.int .i64 0,.int .i64 0,.bool false,.bool false,.int .i64 0,.int .i64 0,.int .i64 0,.bool false,.bool false,.int .i64 0,.int .i64 0,.int .i64 0,.bool false,.bool false,.int .i64 0,.int .i64 0,.int .i64 0,.bool false,.bool false,.int .i64 0,.int .i64 0,.int .i64 0,.bool false,.bool false,.int .i64 0,.int .i64 0,.int .i64 0,.bool false,.bool false,.int .i64 0,.int .i64 0,.int .i64 0,.bool false,.bool false,.int .i64 0,.int .i64 0,.int .i64 0,.bool false,.bool false,.int .i64 0,.int .i64 0,.int .i64 0,.bool false,.bool false,.int .i64 0,.int .i64 0,.int .i64 0,.bool false,.bool false,.int .i64 0,.int .i64 0,.int .i64 0,.bool false,.bool false,.int .i64 0,.int .i64 0,.int .i64 0,.bool false,.bool false,.int .i64 0,.int .i64 0,.int .i64 0]:=by kernel_rfl
theorem bd_107:Y0 Tryz.prog 107 [(0,1),(1,1),(2,1),(3,1)] [.int .i64 0,.int .i64 0,.int .i64 0,.int .i64 0]:=⟨by kernel_rfl,by kernel_rfl⟩
theorem Jo:Y0 Tryz.prog 155 [(0,1),(1,1),(2,1),(3,1),(4,1)] [.bool false,.bool false,.int .i64 0,.int .i64 0,.int .i64 0]:=⟨by kernel_rfl,by kernel_rfl⟩
theorem Qk2:Y0 Tryz.prog 156 [(0,5),(5,5),(10,5),(15,5),(20,5),(25,5),(30,5),(35,5),(40,5),(45,5),(50,5),(55,5),(60,5)] [.bool false,.bool false,.int .i64 0,.int .i64 0,.int .i64 0,.bool false,.bool false,.int .i64 0,.int .i64 0,.int .i64 0,.bool false,.bool false,.int .i64 0,.int .i64 0,.int .i64 0,.bool false,.bool false,.int .i64 0,.int .i64 0,.int .i64 0,.bool false,.bool false,.int .i64 0,.int .i64 0,.int .i64 0,.bool false,.bool false,.int .i64 0,.int .i64 0,.int .i64 0,.bool false,.bool false,.int .i64 0,.int .i64 0,.int .i64 0,.bool false,.bool false,.int .i64 0,.int .i64 0,.int .i64 0,.bool false,.bool false,.int .i64 0,.int .i64 0,.int .i64 0,.bool false,.bool false,.int .i64 0,.int .i64 0,.int .i64 0,.bool false,.bool false,.int .i64 0,.int .i64 0,.int .i64 0,.bool false,.bool false,.int .i64 0,.int .i64 0,.int .i64 0,.bool false,.bool false,.int .i64 0,.int .i64 0,.int .i64 0]:=⟨by kernel_rfl,by kernel_rfl⟩
theorem arr_156:Q2r Tryz.prog 156=some (13,5):=by kernel_rfl
theorem Qcr:Jv Tryz.prog 9=true:=by kernel_rfl
theorem en_27:Qc Tryz.prog 27:=enters_of Tryz.func27 (by kernel_rfl) rfl
theorem en_58:Qc Tryz.prog 58:=enters_of Tryz.func58 (by kernel_rfl) rfl
theorem en_59:Qc Tryz.prog 59:=enters_of Tryz.func59 (by kernel_rfl) rfl
theorem en_60:Qc Tryz.prog 60:=enters_of Tryz.func60 (by kernel_rfl) rfl
theorem en_106:Qc Tryz.prog 106:=enters_of Tryz.func106 (by kernel_rfl) rfl
theorem Qjs:Qc Tryz.prog 107:=enters_of Tryz.func107 (by kernel_rfl) rfl
theorem en_108:Qc Tryz.prog 108:=enters_of Tryz.func108 (by kernel_rfl) rfl
theorem en_109:Qc Tryz.prog 109:=enters_of Tryz.func109 (by kernel_rfl) rfl
theorem en_110:Qc Tryz.prog 110:=enters_of Tryz.func110 (by kernel_rfl) rfl
theorem en_111:Qc Tryz.prog 111:=enters_of Tryz.func111 (by kernel_rfl) rfl
theorem en_135:Qc Tryz.prog 135:=enters_of Tryz.func135 (by kernel_rfl) rfl
theorem en_136:Qc Tryz.prog 136:=enters_of Tryz.func136 (by kernel_rfl) rfl
theorem Qjr:Qc Tryz.prog 158:=enters_of Tryz.func158 (by kernel_rfl) rfl
theorem Qjq:Qc Tryz.prog 188:=enters_of Tryz.func188 (by kernel_rfl) rfl
theorem Qjp:Qc Tryz.prog 189:=enters_of Tryz.func189 (by kernel_rfl) rfl
theorem Qjo:Qc Tryz.prog 211:=enters_of Tryz.func211 (by kernel_rfl) rfl
theorem mixed:Tryz.prog.follows .mixedOrders=true:=by kernel_rfl
theorem Qk7:Qcm Tryz.prog 156=some (13,5):=by kernel_rfl
def Ze:Code:=(Qqh (Qqh (Qqg (Qqh (Qqg (Qqg (Qqg (Qly Tryz.f27))))))))
def Yq:Code:=(Qqg (Qqh (Qqg (Qqh (Qqg (Qqg (Qqg (Qly Tryz.f27))))))))
def m189f2 (a0:Qr1) (a1:Lvl):Option Unit :=
 some ()
def Kq (a0:List Qr1) (a1:Lvl) (s1:Int):Option (LO Int (Unit⊕Int)) :=
 cond (decide (s1 < (a0.length:Int)))
   (Option.bind (J0 a0 s1) fun (x3:Qr1) =>
 Option.bind (m189f2 x3 a1) fun (x4:Unit) =>
 cond (decide (a1.c≤x3.2))
   (some (.done (.inr s1)))
   (some (.next (Qo (s1+1)))))
   (some (.done (.inl ())))
def Qiu (a0:List Qr1) (a1:Lvl):Option Int :=
 Option.bind (Qa (Kq a0 a1) Qd 0) (Sum.elim (fun (o1:Unit)=>some (-1)) (fun o=>some o))
def Qd8 (a0:List Qr1) (a1:Lvl):Option Bool :=
 Option.bind (Qiu a0 a1) fun (x1:Int) =>
 some (decide (0≤x1))
def Xc (a0:Lvl) (s1:Int):Option (LO Int (Unit⊕Bool)) :=
 cond (decide (s1 < (a0.vs.length:Int)))
   (Option.bind (J0 a0.vs s1) fun (x5:Qr1) =>
 Option.bind (cond (decide (x5.1 < (-65536)))
   (some true)
   (cond (decide (7 < x5.1))
   (some true)
   (cond (decide (x5.2 < 0))
   (some true)
   (cond (decide (100 < x5.2))
   (some true)
   (cond (decide (0 < s1))
   (Option.bind (J0 a0.vs (Qo (s1 - 1))) fun (x12:Qr1) =>
 some (decide (x5.1≤x12.1)))
   (some false)))))) (fun (v6:Bool)=>cond v6
   (some (.done (.inr false)))
   (some (.next (Qo (s1+1))))))
   (some (.done (.inl ())))
def Q5h (a0:Lvl):Option Bool :=
 Option.bind (cond (decide (a0.c < 0))
   (some true)
   (cond (decide (100 < a0.c))
   (some true)
   (cond (decide (0 < a0.c))
   (Option.bind (Option.bind (Qd8 a0.vs a0) fun (x7:Bool) =>
 some x7) (fun (y5:Bool)=>some y5))
   (some false)))) (fun (v1:Bool)=>cond v1
   (some false)
   (Option.bind (Qa (Xc a0) Qd 0) (Sum.elim (fun (o3:Unit)=>some true) (fun o=>some o))))
def Bq188_158:IH UV:=⟨Tryz.f188,⟨[],[]⟩,.lab [([.reg 4],.bool)]⟩
def Bq189_158:IH UV:=⟨Tryz.f189,⟨[],[]⟩,.lab [([.reg 3],.bool)]⟩
def Bq211_158:IH UV:=⟨Tryz.f211,⟨[(2,⟨[([.reg 8],.int .i64)],[],true⟩)],[]⟩,.lab [([.reg 4],.int .i64)]⟩
def Qns (a0:Lvl):Option (Bool) :=
 Option.bind (Option.bind (Option.bind (Qa (σ:=Int) (β:=Unit⊕Int) (fun s5=>cond ((decide (s5 < (a0.vs.length:Int)))) (Option.bind (J0 a0.vs s5) fun (x7:Qr1)=>Option.bind (some (decide (a0.c≤x7.2))) fun (v8:Bool)=>cond v8 (some (.done (.inr s5))) (some (.next (Qo (s5+1))))) (some (.done (.inl ())))) Qd 0) (Sum.elim (fun (v6:Unit)=>some (-1)) (fun (o9:Int)=>some o9))) fun (v2:Int)=>some (decide (0≤v2))) fun (v1:Bool)=>some v1
def q158:KF UV:=⟨[.stc .t82],[.bool],fun v=>Qns v⟩
def Hq158:Hints UV:=⟨[],[]⟩
theorem q158_ok:Yy DV .any Tryz.prog 158 q158:=Zf (C:=Qr6) rfl QH Ql (QG (tb:=[]) Ql trivial) (Xk (C:=Qr6) rfl QH Ql (QG (tb:=[]) Ql trivial) Y5 (I:=[(188,Bq188_158),(189,Bq189_158),(211,Bq211_158)]) ⟨⟨Tryz.func188,Qjq⟩,⟨Tryz.func189,Qjp⟩,⟨Tryz.func211,Qjo⟩,trivial⟩ 8) Tryz.func158 Qjr Hq158 q158 rfl (fun v=>by kernel_rfl)
def Qm8 (a0:Lvl):Option (Bool) :=
 Option.bind (cond ((decide (a0.c < 0))) (some true) (cond ((decide (100 < a0.c))) (some true) (cond ((decide (0 < a0.c))) (Option.bind (Qns a0) fun (x3:Bool)=>some x3) (some false)))) fun (v2:Bool)=>cond v2 (some false) (Option.bind (Qa (σ:=Int) (β:=Unit⊕Bool) (fun s6=>cond ((decide (s6 < (a0.vs.length:Int)))) (Option.bind (J0 a0.vs s6) fun (x8:Qr1)=>cond ((decide (x8.1 < (-65536)))) (some (.done (.inr false))) (cond ((decide (7 < x8.1))) (some (.done (.inr false))) (cond ((decide (x8.2 < 0))) (some (.done (.inr false))) (cond ((decide (100 < x8.2))) (some (.done (.inr false))) (cond ((decide (0 < s6))) (Option.bind (J0 a0.vs (Qo (s6 - 1))) fun (x9:Qr1)=>cond ((decide (x8.1≤x9.1))) (some (.done (.inr false))) (some (.next (Qo (s6+1))))) (some (.next (Qo (s6+1))))))))) (some (.done (.inl ())))) Qd 0) (Sum.elim (fun (v7:Unit)=>some true) (fun (o10:Bool)=>some o10)))
def p136:KF UV:=⟨[.stc .t82],[.bool],fun v=>Qm8 v⟩
def Hq136:Hints UV:=⟨[(1,⟨[([.reg 21],.bool)],[],false⟩),(5,⟨[([.reg 25],.int .i64)],[],true⟩)],[(10,[])]⟩
theorem p136_ok:Yy DV .any Tryz.prog 136 p136:=Zf (C:=Qr6) rfl QH Ql (QG (tb:=[(158,q158)]) Ql ⟨q158_ok,trivial⟩) Y5 Tryz.func136 en_136 Hq136 p136 rfl (fun v=>by kernel_rfl)
theorem n136_eq (a0:Lvl):Qm8 a0=Q5h a0:=by
 have e:(fun (s6:Int)=>cond ((decide (s6 < (a0.vs.length:Int)))) (Option.bind (J0 a0.vs s6) fun (x8:Qr1)=>cond ((decide (x8.1 < (-65536)))) (some (.done (.inr false))) (cond ((decide (7 < x8.1))) (some (.done (.inr false))) (cond ((decide (x8.2 < 0))) (some (.done (.inr false))) (cond ((decide (100 < x8.2))) (some (.done (.inr false))) (cond ((decide (0 < s6))) (Option.bind (J0 a0.vs (Qo (s6 - 1))) fun (x9:Qr1)=>cond ((decide (x8.1≤x9.1))) (some (.done (.inr false))) (some (.next (Qo (s6+1))))) (some (.next (Qo (s6+1))))))))) (some (.done (.inl ()))))=Xc a0:=by
   funext s
   unfold Xc
   cases (decide (s < (a0.vs.length:Int))) with
   | false=>rfl
   | true=>cases J0 a0.vs s with
     | none=>rfl
     | some x =>
       simp only [C7,C1]
       generalize decide (x.1 < (-65536))=b1
       generalize decide (7 < x.1)=b2
       generalize decide (x.2 < 0)=b3
       generalize decide (100 < x.2)=b4
       generalize decide (0 < s)=b5
       cases b1 with | true=>rfl | false=>cases b2 with | true=>rfl | false=>cases b3 with | true=>rfl | false=>cases b4 with | true=>rfl | false=>cases b5 with | false=>rfl | true=>cases J0 a0.vs (Qo (s - 1)) <;> rfl
 unfold Qm8 Q5h
 rw [e];rfl
def q136:KF UV:=⟨[.stc .t82],[.bool],fun v=>Q5h v⟩
theorem Qeq:Yy DV .any Tryz.prog 136 q136:=⟨rfl,fun v r h=>p136_ok.2 v r ((n136_eq v).trans h)⟩
theorem m136_ok (a0:Lvl) (r:Bool) (h0:Q5h a0=some r):Fun Tryz.prog 136 [.agg (Qqf a0)] (Qh [.one (Qqc r)]):=FunW.any (Eq.mp (show FunW .any Tryz.prog 136 (QN DV q136.args a0) (Qh (QN DV q136.res r))=_ from by kernel_rfl) (Qeq.2 a0 r h0))
def Qda (a0:Byt):Option Bool :=
 Option.bind (cond (decide (97≤a0.n))
   (cond (decide (a0.n≤122))
   (some true)
   (cond (decide (65≤a0.n))
   (cond (decide (a0.n≤90))
   (some true)
   (some (a0.n==95)))
   (some (a0.n==95))))
   (cond (decide (65≤a0.n))
   (cond (decide (a0.n≤90))
   (some true)
   (some (a0.n==95)))
   (some (a0.n==95)))) (fun (v1:Bool)=>some v1)
def q135:KF UV:=⟨[.int .u8],[.bool],fun v=>Qda ⟨v⟩⟩
def Hq135:Hints UV:=⟨[(1,⟨[([.reg 2],.bool)],[],false⟩)],[]⟩
theorem q135_ok:Yy DV .any Tryz.prog 135 q135:=Zf (C:=Qr6) rfl QH Ql (QG (tb:=[]) Ql trivial) Y5 Tryz.func135 en_135 Hq135 q135 rfl (fun v=>by kernel_rfl)
def Xf (a0:Qr7) (s1:Bool×Int):Option (LO (Bool×Int) (Bool⊕Bool)) :=
 cond (decide (s1.2 < (a0.length:Int)))
   (Option.bind (J0 a0 s1.2) fun (x3:UInt8) =>
 Option.bind (Qda (⟨(x3.toNat:Int)⟩:Byt)) fun (x4:Bool) =>
 cond x4
   (some (.next (false,(Qo (s1.2+1)))))
   (cond s1.1
   (some (.done (.inr false)))
   (cond ((x3.toNat:Int)==46)
   (some (.next (true,(Qo (s1.2+1)))))
   (Option.bind (cond (decide ((x3.toNat:Int) < 48))
   (some true)
   (some (decide (57 < (x3.toNat:Int))))) (fun (v8:Bool)=>cond v8
   (cond ((x3.toNat:Int) != 39)
   (some (.done (.inr false)))
   (some (.next (s1.1,(Qo (s1.2+1))))))
   (some (.next (s1.1,(Qo (s1.2+1))))))))))
   (some (.done (.inl s1.1)))
def Q04 (a0:Qr7):Option Bool :=
 Option.bind (Qa (Xf a0) Qd (true,0)) (Sum.elim (fun (o1:Bool)=>Option.bind (cond (!o1)
   (some (decide ((a0.length:Int)≤64)))
   (some false)) (fun (v2:Bool)=>some v2)) (fun o=>some o))
def Qm9 (a0:List UInt8):Option (Bool) :=
 Option.bind (Qa (σ:=Bool×Int) (β:=Bool⊕Bool) (fun s41=>cond ((decide (s41.2 < (a0.length:Int)))) (Option.bind (J0 a0 s41.2) fun (x43:UInt8)=>Option.bind (Qda ⟨(x43.toNat:Int)⟩) fun (x44:Bool)=>Option.bind (α:=Bool⊕Bool) (cond x44 (some (.inl false)) (cond s41.1 (some (.inr false)) (Option.bind (α:=Bool⊕Bool) (cond (((x43.toNat:Int)==46)) (some (.inl true)) (Option.bind (cond ((decide ((x43.toNat:Int) < 48))) (some true) (some (decide (57 < (x43.toNat:Int))))) fun (v58:Bool)=>Option.bind (α:=Unit⊕Bool) (cond v58 (cond (((x43.toNat:Int) != 39)) (some (.inr false)) (some (.inl ()))) (some (.inl ()))) (Sum.elim (fun (v59:Unit)=>some (.inl s41.1)) (fun (o60:Bool)=>some (.inr o60))))) (Sum.elim (fun (v57:Bool)=>some (.inl v57)) (fun (o61:Bool)=>some (.inr o61)))))) (Sum.elim (fun (v53:Bool)=>some (.next (v53,(Qo (s41.2+1))))) (fun (o62:Bool)=>some (.done (.inr o62))))) (some (.done (.inl s41.1)))) Qd (true,0)) (Sum.elim (fun (v42:Bool)=>Option.bind (cond ((!v42)) (some (decide ((a0.length:Int)≤64))) (some false)) fun (v63:Bool)=>some v63) (fun (o64:Bool)=>some o64))
def p110:KF UV:=⟨[.str],[.bool],fun v=>Qm9 v⟩
def Hq110:Hints UV:=⟨[(3,⟨[([.reg 3],.bool),([.reg 8],.int .i64)],[([.reg 3],.bool)],true⟩),(11,⟨[([.reg 3],.bool)],[],true⟩),(17,⟨[([.reg 3],.bool)],[],true⟩),(19,⟨[([.reg 22],.bool)],[],false⟩),(20,⟨[],[],true⟩),(25,⟨[([.reg 2],.bool)],[],false⟩)],[]⟩
theorem p110_ok:Yy DV .any Tryz.prog 110 p110:=Zf (C:=Qr6) rfl QH Ql (QG (tb:=[(135,q135)]) Ql ⟨q135_ok,trivial⟩) Y5 Tryz.func110 en_110 Hq110 p110 rfl (fun v=>by kernel_rfl)
theorem n110_eq (a0:List UInt8):Qm9 a0=Q04 a0:=by
 have e:(fun (s41:Bool×Int)=>cond ((decide (s41.2 < (a0.length:Int)))) (Option.bind (J0 a0 s41.2) fun (x43:UInt8)=>Option.bind (Qda ⟨(x43.toNat:Int)⟩) fun (x44:Bool)=>Option.bind (α:=Bool⊕Bool) (cond x44 (some (.inl false)) (cond s41.1 (some (.inr false)) (Option.bind (α:=Bool⊕Bool) (cond (((x43.toNat:Int)==46)) (some (.inl true)) (Option.bind (cond ((decide ((x43.toNat:Int) < 48))) (some true) (some (decide (57 < (x43.toNat:Int))))) fun (v58:Bool)=>Option.bind (α:=Unit⊕Bool) (cond v58 (cond (((x43.toNat:Int) != 39)) (some (.inr false)) (some (.inl ()))) (some (.inl ()))) (Sum.elim (fun (v59:Unit)=>some (.inl s41.1)) (fun (o60:Bool)=>some (.inr o60))))) (Sum.elim (fun (v57:Bool)=>some (.inl v57)) (fun (o61:Bool)=>some (.inr o61)))))) (Sum.elim (fun (v53:Bool)=>some (.next (v53,(Qo (s41.2+1))))) (fun (o62:Bool)=>some (.done (.inr o62))))) (some (.done (.inl s41.1))))=Xf a0:=by
   funext s
   unfold Xf
   cases (decide (s.2 < (a0.length:Int))) with
   | false=>rfl
   | true=>cases J0 a0 s.2 with
     | none=>rfl
     | some x =>
       simp only [C7,C1]
       cases Qda ⟨(x.toNat:Int)⟩ with
       | none=>rfl
       | some b0 =>
         simp only [C1]
         generalize ((x.toNat:Int)==46)=b2
         generalize decide ((x.toNat:Int) < 48)=b3
         generalize decide (57 < (x.toNat:Int))=b4
         generalize ((x.toNat:Int) != 39)=b5
         cases b0 with | true=>rfl | false=>cases s.1 with | true=>rfl | false=>cases b2 with | true=>rfl | false=>cases b3 <;> cases b4 <;> cases b5 <;> rfl
 unfold Qm9 Q04
 rw [e]
def q110:KF UV:=⟨[.str],[.bool],fun v=>Q04 v⟩
theorem Qer:Yy DV .any Tryz.prog 110 q110:=⟨rfl,fun v r h=>p110_ok.2 v r ((n110_eq v).trans h)⟩
theorem m110_ok (a0:Qr7) (r:Bool) (h0:Q04 a0=some r):Fun Tryz.prog 110 [.one (ZR a0)] (Qh [.one (Qqc r)]):=FunW.any (Eq.mp (show FunW .any Tryz.prog 110 (QN DV q110.args a0) (Qh (QN DV q110.res r))=_ from by kernel_rfl) (Qer.2 a0 r h0))
def m60_l0 (a0:Tm) (rc:Tm→Option Int) (s1:Int×Int):Option (LO (Int×Int) Int) :=
 cond (decide (s1.2 < (a0.kids.length:Int)))
   (Option.bind (J0 a0.kids s1.2) fun (x3:Tm) =>
 Option.bind (rc x3) fun (x4:Int) =>
 some (.next ((max s1.1 x4),(Qo (s1.2+1)))))
   (some (.done s1.1))
def Qno (rc:Tm→Option Int) (a0:Tm):Option Int :=
 Option.bind (Qa (m60_l0 a0 rc) Qd (0,0)) (fun (o1:Int)=>some (Qo (o1+1)))
def m60F (rc:Tm→Option Int) (u:Tm):Option Int:=Qno rc u
def Qok (a0:Tm):Option Int:=Jz m60F Qd a0
def q60:KF UV:=⟨[.stc .t25],[.int .i64],fun v=>Qok v⟩
def Hq60:Hints UV:=⟨[(3,⟨[([.reg 3],.int .i64),([.reg 9],.int .i64)],[([.reg 3],.int .i64)],false⟩)],[]⟩
theorem q60s_ok (rc:tup q60.args→Option (tup q60.res)) (H:∀ u r,rc u=some r→FunW .any Tryz.prog 60 (QN DV q60.args u) (Qh (QN DV q60.res r))):Yy DV .any Tryz.prog 60 ⟨q60.args,q60.res,fun v=>Qno rc v⟩:=Zf (C:=Qr6) rfl QH Ql (QG (tb:=[(60,(⟨q60.args,q60.res,rc⟩:KF UV))]) Ql ⟨⟨rfl,H⟩,trivial⟩) Y5 Tryz.func60 en_60 Hq60 _ rfl (fun v=>by kernel_rfl)
theorem q60_ok:Yy DV .any Tryz.prog 60 q60:=⟨rfl,fun v r h=>XO (C:=fun u r=>FunW .any Tryz.prog 60 (QN DV q60.args u) (Qh (QN DV q60.res r))) (fun rc H u r h=>(q60s_ok rc H).2 u r h) Qd v r h⟩
theorem m60_ok (a0:Tm) (r:Int) (h0:Qok a0=some r):Fun Tryz.prog 60 [.agg (Qqf a0)] (Qh [.one (Qqb r)]):=FunW.any (Eq.mp (show FunW .any Tryz.prog 60 (QN DV q60.args a0) (Qh (QN DV q60.res r))=_ from by kernel_rfl) (q60_ok.2 a0 r h0))
def Qmg :Option ((List Use)) :=
 some ([(⟨true,false,0,0,(-1)⟩:Use),(⟨false,false,0,0,(-1)⟩:Use),(⟨false,false,1,0,(-1)⟩:Use),(⟨false,true,(-1),0,(-1)⟩:Use),(⟨false,false,0,2,(-1)⟩:Use),(⟨false,false,0,2,1⟩:Use),(⟨false,false,0,2,1⟩:Use),(⟨false,false,0,2,1⟩:Use),(⟨false,false,0,3,(-1)⟩:Use),(⟨false,false,0,1,(-1)⟩:Use),(⟨false,false,0,1,(-1)⟩:Use),(⟨false,false,0,3,2⟩:Use),(⟨true,false,0,0,(-1)⟩:Use)]:List Use)
theorem Qfj  (r:(List Use)) (h0:Qmg =some r):Fun Tryz.prog 107 [] (Qh [.agg (Q4b (r:List Use))]):=by
 unfold Qmg at h0
 refine Kl 9 15 Tryz.func107 Z Qjs Z (Qpu Z) (fun S w=>?_)
 simp only [J4]
 refine Q4<|Q0<|Qk Z Z (Qpu Z) (QR Qhg Z)<|Q3<|Q5<|Q4<|Q0<|Qpl Z Z Z (QK Jo Z Z Z Z)<|Qpl Z Z Z (Kz Jo Z Z Z)<|Qpl Z Z Z (QK Jo Z Z Z Z)<|Qpl Z Z Z (Q7s Jo Z Z Z Z Z)<|Qpl Z Z Z (QK Jo Z Z Z Z)<|Qpl Z Z Z (QK Jo Z Z Z Z)<|Qpl Z Z Z (QK Jo Z Z Z Z) ?_
 refine Qpl Z Z Z (QK Jo Z Z Z Z)<|Qpl Z Z Z (QK Jo Z Z Z Z)<|Qpl Z Z Z (QK Jo Z Z Z Z)<|Qpl Z Z Z (QK Jo Z Z Z Z)<|Qpl Z Z Z (QK Jo Z Z Z Z)<|Qpl Z Z Z (QK Jo Z Z Z Z)<|Qpl Z Z Z (Q0o Qk2 Z (.cons Z (.cons Z (.cons Z (.cons Z (.cons Z (.cons Z (.cons Z (.cons Z (.cons Z (.cons Z (.cons Z (.cons Z (.cons Z .nil))))))))))))) Z)<|QQ Z Z (Gu Q52 Z Z Z Z Z Z)<|Q3<|Q5<|QT ?_
 have e:=Qpj h0;subst e
 exact Zq (fun _ _ h=>h) Z (Zr Q52 Z Z Z Z .nil) (.cons (.agg (.cons (.d _) (.cons (.d _) (.cons (.d _) (.cons (.d _) (.cons (.d _) (.cons (.d _) (.cons (.d _) (.cons (.d _) (.cons (.d _) (.cons (.d _) (.cons (.d _) (.cons (.d _) (.cons (.d _) (.cons (.d _) (.cons (.d _) (.cons (.d _) (.cons (.d _) (.cons (.d _) (.cons (.d _) (.cons (.d _) (.cons (.d _) (.cons (.d _) (.cons (.d _) (.cons (.d _) (.cons (.d _) (.cons (.d _) (.cons (.d _) (.cons (.d _) (.cons (.d _) (.cons (.d _) (.cons (.d _) (.cons (.d _) (.cons (.d _) (.cons (.d _) (.cons (.d _) (.cons (.d _) (.cons (.d _) (.cons (.d _) (.cons (.d _) (.cons (.d _) (.cons (.d _) (.cons (.d _) (.cons (.d _) (.cons (.d _) (.cons (.d _) (.cons (.d _) (.cons (.d _) (.cons (.d _) (.cons (.d _) (.cons (.d _) (.cons (.d _) (.cons (.d _) (.cons (.d _) (.cons (.d _) (.cons (.d _) (.cons (.d _) (.cons (.d _) (.cons (.d _) (.cons (.d _) (.cons (.d _) (.cons (.d _) (.cons (.d _) (.cons (.d _) (.cons (.d _) (.cons (.d _) .nil)))))))))))))))))))))))))))))))))))))))))))))))))))))))))))))))))) .nil)
def Xe (a1:Lvl) (a0:Scp) (s1:Int):Option (LO Int (Unit⊕Int)) :=
 cond (decide (s1 < (a1.vs.length:Int)))
   (Option.bind (J0 a1.vs s1) fun (x5:Qr1) =>
 cond (decide (a0.params≤x5.1))
   (some (.done (.inr 15)))
   (some (.next (Qo (s1+1)))))
   (some (.done (.inl ())))
def Xd (a1:Lvl) (a0:Scp) (s1:Int):Option (LO Int (Unit⊕Int)) :=
 cond (decide (s1 < (a1.vs.length:Int)))
   (Option.bind (J0 a1.vs s1) fun (x6:Qr1) =>
 Option.bind (cond (decide (x6.1 < 0))
   (some (decide (a0.levels≤(Qo ((-1) - x6.1)))))
   (some false)) (fun (v7:Bool)=>cond v7
   (some (.done (.inr 23)))
   (some (.next (Qo (s1+1))))))
   (some (.done (.inl ())))
def Q03 (a0:Scp) (a1:Lvl):Option Int :=
 Option.bind (Q5h a1) fun (x1:Bool) =>
 cond (!x1)
   (some 3)
   (Option.bind (Qa (Xe a1 a0) Qd 0) (Sum.elim (fun (o3:Unit)=>Option.bind (Qa (Xd a1 a0) Qd 0) (Sum.elim (fun (o4:Unit)=>some 0) (fun o=>some o))) (fun o=>some o)))
def q111:KF UV:=⟨[.stc .t107,.stc .t82],[.int .i64],fun v=>Q03 v.1 v.2⟩
def Hq111:Hints UV:=⟨[(5,⟨[([.reg 15],.int .i64)],[],true⟩),(15,⟨[([.reg 28],.int .i64)],[],true⟩),(20,⟨[([.reg 42],.bool)],[],false⟩)],[]⟩
theorem q111_ok:Yy DV .any Tryz.prog 111 q111:=Zf (C:=Qr6) rfl QH Ql (QG (tb:=[(136,q136)]) Ql ⟨Qeq,trivial⟩) Y5 Tryz.func111 en_111 Hq111 q111 rfl (fun v=>by kernel_rfl)
def Q8t (p0_:Bool) (p1_:Tm):Option Bool :=
 cond p0_
   (some false)
   (Option.bind (Qmg ) fun (b0_:(List Use)) =>
 Option.bind (J0 b0_ p1_.kind) fun (b1_:Use) =>
 Q7 (Nat.beq b0_.length 13)
 (Option.bind (cond b1_.index
   (cond b1_.name
   (cond (decide (b1_.levels < 0))
   (some ((p1_.kids.length:Int)==b1_.kids))
   (cond ((p1_.levels.length:Int)==b1_.levels)
   (some ((p1_.kids.length:Int)==b1_.kids))
   (some false)))
   (cond (p1_.name==([]:List UInt8))
   (cond (decide (b1_.levels < 0))
   (some ((p1_.kids.length:Int)==b1_.kids))
   (cond ((p1_.levels.length:Int)==b1_.levels)
   (some ((p1_.kids.length:Int)==b1_.kids))
   (some false)))
   (some false)))
   (cond (p1_.index==0)
   (cond b1_.name
   (cond (decide (b1_.levels < 0))
   (some ((p1_.kids.length:Int)==b1_.kids))
   (cond ((p1_.levels.length:Int)==b1_.levels)
   (some ((p1_.kids.length:Int)==b1_.kids))
   (some false)))
   (cond (p1_.name==([]:List UInt8))
   (cond (decide (b1_.levels < 0))
   (some ((p1_.kids.length:Int)==b1_.kids))
   (cond ((p1_.levels.length:Int)==b1_.levels)
   (some ((p1_.kids.length:Int)==b1_.kids))
   (some false)))
   (some false)))
   (some false))) (fun (b2_:Bool)=>some b2_)))
def WS (a0:Tm):Option Bool :=
 Option.bind (cond (decide (a0.kind < 0))
   (some true)
   (some (decide (13≤a0.kind)))) (fun (v1:Bool)=>Q8t v1 a0)
theorem m109_ok (a0:Tm) (r:Bool) (h0:WS a0=some r):Fun Tryz.prog 109 [.agg (Qqf a0)] (Qh [.one (Qqc r)]):=by
 unfold WS at h0
 refine Kl 9 53 Tryz.func109 Z en_109 Z (Qpu Z) (fun S w=>?_)
 simp only [J4]
 refine Q4<|Q0<|Qk Z Z (Qpu Z) (JZ Z)<|Qpn Z Z Z<|Q3<|Q5<|Q4<|Q4 ?_
 refine Jp (fun (v1:Bool)=>⟨[(1,.v (.one (.ptr 0 0))),(11,.v (.one (Qqc v1)))],[(0,.cells 25 (Qqf a0))],[],1,53,[]⟩) (fun (v1:Bool)=>(Q8t v1 a0)=some r) ?_ ?_
 refine Qv h0 (fun w1_ h1 h0=>?_)
 refine Q0<|Qpl Z Z Z (Q2 Xl Z)<|Qpl Z Z Z (Q6 JY Z Z Z)<|Qpl Z Z Z (Qb Z Z Z)<|Qpm Z Z Z ?_
 refine QZ (d:=7) (c:=(decide (a0.kind < 0))) Z (fun c2=>?_) (fun c2=>?_)
 replace h1:=QD c2 h1
 refine Q8 Z Z<|Q8 Z Z<|Q8 Z Z<|Qpl Z Z Z (Qm Z Z)<|Q3 ?_
 have e:=Qpj h1;subst e
 exact Qj true (Qpi (Cp _) Z Z Z Z Z) h0
 replace h1:=QE c2 h1
 refine Qpl Z Z Z (Q2 Xl Z)<|Qpl Z Z Z (Q6 JY Z Z Z)<|Qpl Z Z Z (Qb Z Z Z)<|Qpl Z Z Z (Qz Z Z)<|Q3 ?_
 have e:=Qpj h1;subst e
 exact Qj (decide (13≤a0.kind)) (Qpi (Cp _) Z Z Z Z Z) h0
 intro v1 h0
 unfold Q8t at h0
 refine Q5 ?_
 refine Qy (b:=v1) Z (fun c3=>?_) (fun c3=>?_)
 replace h0:=QD c3 h0
 refine Q4<|Q0<|Qpn Z Z Z<|Q3<|Q5<|QT ?_
 have e:=Qpj h0;subst e
 exact Zq (fun _ _ h=>h) Z (Jj Z .nil) (.cons (.one (.d _)) .nil)
 replace h0:=QE c3 h0
 refine QX<|Q5<|Q4 ?_
 refine YD [4,5] [(0,1),(1,1),(2,1),(3,1)] mixed (by kernel_rfl) (by kernel_rfl) (by kernel_rfl) ?_
 refine Qv h0 (fun x4 hx4 h0=>?_)
 refine RunA.rd Z Z Z (Y8 (Qfj  x4 hx4) Z .nil) Z<|RunA.rd Z Z Z (Q9 (Q2 Xl Z)) Z<|RunA.rd Z Z Z (Q9 (Q6 JY Z Z Z)) Z ?_
 refine Qv h0 (fun x5 hx5 h0=>?_)
 refine Uz h0 (fun g6 h0=>?_)
 refine RunA.rd Z Z Z (Q9 (Q1p (α:=Use) (tbl:=x4) Qk7 Z Z g6 Z hx5)) Z<|RunA.eff Z Z Z (QR z_155 Z) Z<|RunA.eff Z Z Z (Zs (x5:Use) ag_155 Z Z Z Z Z) Z ?_
 refine RunA.nil ⟨?ex,_,_,Z,?_⟩
 case ex=>exact ⟨⟨_,rfl,_,_,rfl,rfl,rfl,.inl ⟨rfl,_,Y8 (Qfj  x4 hx4) rfl .nil,rfl⟩⟩,⟨_,rfl,_,_,rfl,rfl,rfl,.inl ⟨rfl,_,Q9 (Q2 Xl rfl),rfl⟩⟩,⟨_,rfl,_,_,rfl,rfl,rfl,.inl ⟨rfl,_,Q9 (Q6 JY rfl rfl rfl),rfl⟩⟩,⟨_,rfl,_,_,rfl,rfl,rfl,.inl ⟨rfl,_,Q9 (Q1p (α:=Use) (tbl:=x4) Qk7 rfl rfl g6 rfl hx5),rfl⟩⟩,trivial⟩
 refine Xp (st':=⟨[(1,.v (.one (.ptr 0 0))),(3,.v (.one (.ptr 1 0)))],[(0,.cells 25 (Qqf a0)),(1,.cells 155 (Qqf x5))],[],2,53,[]⟩) (Qpi (Cp _) Z Z Z Z Z)<|Q5<|Q4 ?_
 refine Jp (fun (v7:Bool)=>⟨[(2,.v (.one (Qqc v7)))],[(0,.cells 25 (Qqf a0)),(1,.cells 155 (Qqf x5))],[],2,53,[]⟩) (fun (v7:Bool)=>(some v7)=some r) ?_ ?_
 refine Qv h0 (fun w1_ h1 h0=>?_)
 refine Q0<|Qpl Z Z Z (Q2 fo_155_0 Z)<|Qpl Z Z Z (Q6 Qc8 Z Z Z)<|Qpm Z Z Z ?_
 refine QZ (d:=18) (c:=x5.index) Z (fun c8=>?_) (fun c8=>?_)
 replace h1:=QD c8 h1
 refine Q8 Z Z<|Q8 Z Z<|Q8 Z Z<|Qpl Z Z Z (Qm Z Z)<|Qpm Z Z Z<|Qpl Z Z Z (Q2 Qbk Z)<|Qpl Z Z Z (Q6 Qc8 Z Z Z)<|Qpm Z Z Z ?_
 refine QZ (d:=26) (c:=x5.name) Z (fun c9=>?_) (fun c9=>?_)
 replace h1:=QD c9 h1
 refine Q8 Z Z<|Q8 Z Z<|Q8 Z Z<|Qpl Z Z Z (Qm Z Z)<|Qpl Z Z Z (Qm Z Z)<|Qpm Z Z Z<|Qpl Z Z Z (Q2 ZX Z)<|Qpl Z Z Z (Q6 JY Z Z Z)<|Qpl Z Z Z (Qb Z Z Z)<|Qpm Z Z Z ?_
 refine QZ (d:=36) (c:=(decide (x5.levels < 0))) Z (fun c10=>?_) (fun c10=>?_)
 replace h1:=QD c10 h1
 refine Q8 Z Z<|Q8 Z Z<|Q8 Z Z<|Q8 Z Z<|Q8 Z Z<|Q8 Z Z<|Qpl Z Z Z (Qm Z Z)<|Qpl Z Z Z (Qm Z Z)<|Qpm Z Z Z<|Qpl Z Z Z (Q2 Ki Z)<|Qpl Z Z Z (Q6 Dx Z Z Z)<|Qpl Z Z Z (JG (α:=Tm) WW Z (.d _))<|Qpl Z Z Z (Q2 ZW Z)<|Qpl Z Z Z (Q6 JY Z Z Z) ?_
 refine Qpl Z Z Z (Qb Z Z Z)<|Qpl Z Z Z (Qm Z Z)<|Qpn Z Z Z<|Q3 ?_
 have e:=Qpj h1;subst e
 exact Qj ((a0.kids.length:Int)==x5.kids) (Qpi (Cp _) Z Z Z Z Z) h0
 replace h1:=QE c10 h1
 refine Qpl Z Z Z (Q2 Q2h Z)<|Qpl Z Z Z (Q6 Qgs Z Z Z)<|Qpl Z Z Z (JG (α:=Lvl) Qeg Z (.d _))<|Qpl Z Z Z (Q2 ZX Z)<|Qpl Z Z Z (Q6 JY Z Z Z)<|Qpl Z Z Z (Qb Z Z Z)<|Qpl Z Z Z (Qz Z Z)<|Qpl Z Z Z (Qm Z Z)<|Qpm Z Z Z ?_
 refine QZ (d:=45) (c:=((a0.levels.length:Int)==x5.levels)) Z (fun c11=>?_) (fun c11=>?_)
 replace h1:=QD c11 h1
 refine Qpl Z Z Z (Q2 Ki Z)<|Qpl Z Z Z (Q6 Dx Z Z Z)<|Qpl Z Z Z (JG (α:=Tm) WW Z (.d _))<|Qpl Z Z Z (Q2 ZW Z)<|Qpl Z Z Z (Q6 JY Z Z Z)<|Qpl Z Z Z (Qb Z Z Z)<|Qpl Z Z Z (Qm Z Z)<|Qpn Z Z Z<|Q3 ?_
 have e:=Qpj h1;subst e
 exact Qj ((a0.kids.length:Int)==x5.kids) (Qpi (Cp _) Z Z Z Z Z) h0
 replace h1:=QE c11 h1
 refine Q8 Z Z<|Q8 Z Z<|Q8 Z Z<|Q8 Z Z<|Q8 Z Z<|Q8 Z Z<|Qpl Z Z Z (Qz Z Z)<|Qpn Z Z Z<|Q3 ?_
 have e:=Qpj h1;subst e
 exact Qj false (Qpi (Cp _) Z Z Z Z Z) h0
 replace h1:=QE c9 h1
 refine Qpl Z Z Z (Q2 Qg9 Z)<|Qpl Z Z Z (Q6 Q0n Z Z Z)<|Qpl Z Z Z (Qe2 Z Z)<|Qpl Z Z Z (Qz Z Z)<|Qpl Z Z Z (Qm Z Z)<|Qpm Z Z Z ?_
 refine QZ (d:=32) (c:=(a0.name==([]:List UInt8))) Z (fun c12=>?_) (fun c12=>?_)
 replace h1:=QD c12 h1
 refine Qpl Z Z Z (Q2 ZX Z)<|Qpl Z Z Z (Q6 JY Z Z Z)<|Qpl Z Z Z (Qb Z Z Z)<|Qpm Z Z Z ?_
 refine QZ (d:=36) (c:=(decide (x5.levels < 0))) Z (fun c13=>?_) (fun c13=>?_)
 replace h1:=QD c13 h1
 refine Q8 Z Z<|Q8 Z Z<|Q8 Z Z<|Q8 Z Z<|Q8 Z Z<|Q8 Z Z<|Qpl Z Z Z (Qm Z Z)<|Qpl Z Z Z (Qm Z Z)<|Qpm Z Z Z<|Qpl Z Z Z (Q2 Ki Z)<|Qpl Z Z Z (Q6 Dx Z Z Z)<|Qpl Z Z Z (JG (α:=Tm) WW Z (.d _))<|Qpl Z Z Z (Q2 ZW Z)<|Qpl Z Z Z (Q6 JY Z Z Z) ?_
 refine Qpl Z Z Z (Qb Z Z Z)<|Qpl Z Z Z (Qm Z Z)<|Qpn Z Z Z<|Q3 ?_
 have e:=Qpj h1;subst e
 exact Qj ((a0.kids.length:Int)==x5.kids) (Qpi (Cp _) Z Z Z Z Z) h0
 replace h1:=QE c13 h1
 refine Qpl Z Z Z (Q2 Q2h Z)<|Qpl Z Z Z (Q6 Qgs Z Z Z)<|Qpl Z Z Z (JG (α:=Lvl) Qeg Z (.d _))<|Qpl Z Z Z (Q2 ZX Z)<|Qpl Z Z Z (Q6 JY Z Z Z)<|Qpl Z Z Z (Qb Z Z Z)<|Qpl Z Z Z (Qz Z Z)<|Qpl Z Z Z (Qm Z Z)<|Qpm Z Z Z ?_
 refine QZ (d:=45) (c:=((a0.levels.length:Int)==x5.levels)) Z (fun c14=>?_) (fun c14=>?_)
 replace h1:=QD c14 h1
 refine Qpl Z Z Z (Q2 Ki Z)<|Qpl Z Z Z (Q6 Dx Z Z Z)<|Qpl Z Z Z (JG (α:=Tm) WW Z (.d _))<|Qpl Z Z Z (Q2 ZW Z)<|Qpl Z Z Z (Q6 JY Z Z Z)<|Qpl Z Z Z (Qb Z Z Z)<|Qpl Z Z Z (Qm Z Z)<|Qpn Z Z Z<|Q3 ?_
 have e:=Qpj h1;subst e
 exact Qj ((a0.kids.length:Int)==x5.kids) (Qpi (Cp _) Z Z Z Z Z) h0
 replace h1:=QE c14 h1
 refine Q8 Z Z<|Q8 Z Z<|Q8 Z Z<|Q8 Z Z<|Q8 Z Z<|Q8 Z Z<|Qpl Z Z Z (Qz Z Z)<|Qpn Z Z Z<|Q3 ?_
 have e:=Qpj h1;subst e
 exact Qj false (Qpi (Cp _) Z Z Z Z Z) h0
 replace h1:=QE c12 h1
 refine Q8 Z Z<|Q8 Z Z<|Q8 Z Z<|Q8 Z Z<|Q8 Z Z<|Q8 Z Z<|Q8 Z Z<|Q8 Z Z<|Q8 Z Z<|Q8 Z Z<|Q8 Z Z<|Qpl Z Z Z (Qz Z Z)<|Qpm Z Z Z<|Q8 Z Z ?_
 refine Q8 Z Z<|Q8 Z Z<|Q8 Z Z<|Q8 Z Z<|Q8 Z Z<|Qpl Z Z Z (Qz Z Z)<|Qpn Z Z Z<|Q3 ?_
 have e:=Qpj h1;subst e
 exact Qj false (Qpi (Cp _) Z Z Z Z Z) h0
 replace h1:=QE c8 h1
 refine Qpl Z Z Z (Q2 fo_25_1 Z)<|Qpl Z Z Z (Q6 JY Z Z Z)<|Qpl Z Z Z (Qb Z Z Z)<|Qpl Z Z Z (Qz Z Z)<|Qpm Z Z Z ?_
 refine QZ (d:=23) (c:=(a0.index==0)) Z (fun c15=>?_) (fun c15=>?_)
 replace h1:=QD c15 h1
 refine Qpl Z Z Z (Q2 Qbk Z)<|Qpl Z Z Z (Q6 Qc8 Z Z Z)<|Qpm Z Z Z ?_
 refine QZ (d:=26) (c:=x5.name) Z (fun c16=>?_) (fun c16=>?_)
 replace h1:=QD c16 h1
 refine Q8 Z Z<|Q8 Z Z<|Q8 Z Z<|Qpl Z Z Z (Qm Z Z)<|Qpl Z Z Z (Qm Z Z)<|Qpm Z Z Z<|Qpl Z Z Z (Q2 ZX Z)<|Qpl Z Z Z (Q6 JY Z Z Z)<|Qpl Z Z Z (Qb Z Z Z)<|Qpm Z Z Z ?_
 refine QZ (d:=36) (c:=(decide (x5.levels < 0))) Z (fun c17=>?_) (fun c17=>?_)
 replace h1:=QD c17 h1
 refine Q8 Z Z<|Q8 Z Z<|Q8 Z Z<|Q8 Z Z<|Q8 Z Z<|Q8 Z Z<|Qpl Z Z Z (Qm Z Z)<|Qpl Z Z Z (Qm Z Z)<|Qpm Z Z Z<|Qpl Z Z Z (Q2 Ki Z)<|Qpl Z Z Z (Q6 Dx Z Z Z)<|Qpl Z Z Z (JG (α:=Tm) WW Z (.d _))<|Qpl Z Z Z (Q2 ZW Z)<|Qpl Z Z Z (Q6 JY Z Z Z) ?_
 refine Qpl Z Z Z (Qb Z Z Z)<|Qpl Z Z Z (Qm Z Z)<|Qpn Z Z Z<|Q3 ?_
 have e:=Qpj h1;subst e
 exact Qj ((a0.kids.length:Int)==x5.kids) (Qpi (Cp _) Z Z Z Z Z) h0
 replace h1:=QE c17 h1
 refine Qpl Z Z Z (Q2 Q2h Z)<|Qpl Z Z Z (Q6 Qgs Z Z Z)<|Qpl Z Z Z (JG (α:=Lvl) Qeg Z (.d _))<|Qpl Z Z Z (Q2 ZX Z)<|Qpl Z Z Z (Q6 JY Z Z Z)<|Qpl Z Z Z (Qb Z Z Z)<|Qpl Z Z Z (Qz Z Z)<|Qpl Z Z Z (Qm Z Z)<|Qpm Z Z Z ?_
 refine QZ (d:=45) (c:=((a0.levels.length:Int)==x5.levels)) Z (fun c18=>?_) (fun c18=>?_)
 replace h1:=QD c18 h1
 refine Qpl Z Z Z (Q2 Ki Z)<|Qpl Z Z Z (Q6 Dx Z Z Z)<|Qpl Z Z Z (JG (α:=Tm) WW Z (.d _))<|Qpl Z Z Z (Q2 ZW Z)<|Qpl Z Z Z (Q6 JY Z Z Z)<|Qpl Z Z Z (Qb Z Z Z)<|Qpl Z Z Z (Qm Z Z)<|Qpn Z Z Z<|Q3 ?_
 have e:=Qpj h1;subst e
 exact Qj ((a0.kids.length:Int)==x5.kids) (Qpi (Cp _) Z Z Z Z Z) h0
 replace h1:=QE c18 h1
 refine Q8 Z Z<|Q8 Z Z<|Q8 Z Z<|Q8 Z Z<|Q8 Z Z<|Q8 Z Z<|Qpl Z Z Z (Qz Z Z)<|Qpn Z Z Z<|Q3 ?_
 have e:=Qpj h1;subst e
 exact Qj false (Qpi (Cp _) Z Z Z Z Z) h0
 replace h1:=QE c16 h1
 refine Qpl Z Z Z (Q2 Qg9 Z)<|Qpl Z Z Z (Q6 Q0n Z Z Z)<|Qpl Z Z Z (Qe2 Z Z)<|Qpl Z Z Z (Qz Z Z)<|Qpl Z Z Z (Qm Z Z)<|Qpm Z Z Z ?_
 refine QZ (d:=32) (c:=(a0.name==([]:List UInt8))) Z (fun c19=>?_) (fun c19=>?_)
 replace h1:=QD c19 h1
 refine Qpl Z Z Z (Q2 ZX Z)<|Qpl Z Z Z (Q6 JY Z Z Z)<|Qpl Z Z Z (Qb Z Z Z)<|Qpm Z Z Z ?_
 refine QZ (d:=36) (c:=(decide (x5.levels < 0))) Z (fun c20=>?_) (fun c20=>?_)
 replace h1:=QD c20 h1
 refine Q8 Z Z<|Q8 Z Z<|Q8 Z Z<|Q8 Z Z<|Q8 Z Z<|Q8 Z Z<|Qpl Z Z Z (Qm Z Z)<|Qpl Z Z Z (Qm Z Z)<|Qpm Z Z Z<|Qpl Z Z Z (Q2 Ki Z)<|Qpl Z Z Z (Q6 Dx Z Z Z)<|Qpl Z Z Z (JG (α:=Tm) WW Z (.d _))<|Qpl Z Z Z (Q2 ZW Z)<|Qpl Z Z Z (Q6 JY Z Z Z) ?_
 refine Qpl Z Z Z (Qb Z Z Z)<|Qpl Z Z Z (Qm Z Z)<|Qpn Z Z Z<|Q3 ?_
 have e:=Qpj h1;subst e
 exact Qj ((a0.kids.length:Int)==x5.kids) (Qpi (Cp _) Z Z Z Z Z) h0
 replace h1:=QE c20 h1
 refine Qpl Z Z Z (Q2 Q2h Z)<|Qpl Z Z Z (Q6 Qgs Z Z Z)<|Qpl Z Z Z (JG (α:=Lvl) Qeg Z (.d _))<|Qpl Z Z Z (Q2 ZX Z)<|Qpl Z Z Z (Q6 JY Z Z Z)<|Qpl Z Z Z (Qb Z Z Z)<|Qpl Z Z Z (Qz Z Z)<|Qpl Z Z Z (Qm Z Z)<|Qpm Z Z Z ?_
 refine QZ (d:=45) (c:=((a0.levels.length:Int)==x5.levels)) Z (fun c21=>?_) (fun c21=>?_)
 replace h1:=QD c21 h1
 refine Qpl Z Z Z (Q2 Ki Z)<|Qpl Z Z Z (Q6 Dx Z Z Z)<|Qpl Z Z Z (JG (α:=Tm) WW Z (.d _))<|Qpl Z Z Z (Q2 ZW Z)<|Qpl Z Z Z (Q6 JY Z Z Z)<|Qpl Z Z Z (Qb Z Z Z)<|Qpl Z Z Z (Qm Z Z)<|Qpn Z Z Z<|Q3 ?_
 have e:=Qpj h1;subst e
 exact Qj ((a0.kids.length:Int)==x5.kids) (Qpi (Cp _) Z Z Z Z Z) h0
 replace h1:=QE c21 h1
 refine Q8 Z Z<|Q8 Z Z<|Q8 Z Z<|Q8 Z Z<|Q8 Z Z<|Q8 Z Z<|Qpl Z Z Z (Qz Z Z)<|Qpn Z Z Z<|Q3 ?_
 have e:=Qpj h1;subst e
 exact Qj false (Qpi (Cp _) Z Z Z Z Z) h0
 replace h1:=QE c19 h1
 refine Q8 Z Z<|Q8 Z Z<|Q8 Z Z<|Q8 Z Z<|Q8 Z Z<|Q8 Z Z<|Q8 Z Z<|Q8 Z Z<|Q8 Z Z<|Q8 Z Z<|Q8 Z Z<|Qpl Z Z Z (Qz Z Z)<|Qpm Z Z Z<|Q8 Z Z ?_
 refine Q8 Z Z<|Q8 Z Z<|Q8 Z Z<|Q8 Z Z<|Q8 Z Z<|Qpl Z Z Z (Qz Z Z)<|Qpn Z Z Z<|Q3 ?_
 have e:=Qpj h1;subst e
 exact Qj false (Qpi (Cp _) Z Z Z Z Z) h0
 replace h1:=QE c15 h1
 refine Q8 Z Z<|Q8 Z Z<|Q8 Z Z<|Q8 Z Z<|Q8 Z Z<|Q8 Z Z<|Q8 Z Z<|Qpl Z Z Z (Qz Z Z)<|Qpm Z Z Z<|Q8 Z Z<|Q8 Z Z<|Q8 Z Z<|Q8 Z Z<|Q8 Z Z ?_
 refine Q8 Z Z<|Q8 Z Z<|Q8 Z Z<|Q8 Z Z<|Q8 Z Z<|Q8 Z Z<|Qpl Z Z Z (Qz Z Z)<|Qpm Z Z Z<|Q8 Z Z<|Q8 Z Z<|Q8 Z Z<|Q8 Z Z<|Q8 Z Z<|Q8 Z Z ?_
 refine Qpl Z Z Z (Qz Z Z)<|Qpn Z Z Z<|Q3 ?_
 have e:=Qpj h1;subst e
 exact Qj false (Qpi (Cp _) Z Z Z Z Z) h0
 intro v7 h0
 refine Q5<|QT ?_
 have e:=Qpj h0;subst e
 exact Zq (fun _ _ h=>h) Z (Jj Z .nil) (.cons (.one (.d _)) .nil)
def q109:KF UV:=⟨[.stc .t25],[.bool],fun v=>WS v⟩
theorem q109_ok:Yy DV .any Tryz.prog 109 q109:=⟨rfl,fun v r h=>DH (Eq.mp (show _=Fun Tryz.prog 109 (QN DV q109.args v) (Qh (QN DV q109.res r)) from by kernel_rfl) (m109_ok v r h))⟩
def Yp (a1:Tm) (a0:Scp) (s1:Int):Option (LO Int (Unit⊕Int)) :=
 cond (decide (s1 < (a1.levels.length:Int)))
   (Option.bind (J0 a1.levels s1) fun (x9:Lvl) =>
 Option.bind (Q03 a0 x9) fun (x10:Int) =>
 cond (x10 != 0)
   (some (.done (.inr x10)))
   (some (.next (Qo (s1+1)))))
   (some (.done (.inl ())))
def ZA (p0_:Tm) (p1_:Scp) (p2_:Int):Option Int :=
 Option.bind (cond (p0_.kind==0)
   (cond (decide (p0_.index < 0))
   (some true)
   (some (decide (p1_.vars≤(Qo (p0_.index - p2_))))))
   (some false)) (fun (b0_:Bool)=>cond b0_
   (some 24)
   (Option.bind (cond (p0_.kind==12)
   (cond (decide (p0_.index < 0))
   (some true)
   (some (decide (p1_.metas≤p0_.index))))
   (some false)) (fun (b1_:Bool)=>cond b1_
   (some 23)
   (some 0))))
def Qhc (a0:Scp) (a1:Tm) (a2:Int):Option Int :=
 Option.bind (WS a1) fun (x1:Bool) =>
 cond (!x1)
   (some 3)
   (cond (a1.kind==3)
   (Option.bind (Q04 a1.name) fun (x4:Bool) =>
 cond (!x4)
   (some 29)
   (cond (decide (8 < (a1.levels.length:Int)))
   (some 6)
   (Option.bind (Qa (Yp a1 a0) Qd 0) (Sum.elim (fun (o7:Unit)=>ZA a1 a0 a2) (fun o=>some o)))))
   (Option.bind (Qa (Yp a1 a0) Qd 0) (Sum.elim (fun (o21:Unit)=>ZA a1 a0 a2) (fun o=>some o))))
def Qot (a0:Scp) (a1:Tm) (a2:Int):Option (Int) :=
 Option.bind (WS a1) fun (x1:Bool)=>cond ((!x1)) (some 3) (Option.bind (α:=Unit⊕Int) (cond ((a1.kind==3)) (Option.bind (Q04 a1.name) fun (x4:Bool)=>cond ((!x4)) (some (.inr 29)) (cond ((decide (8 < (a1.levels.length:Int)))) (some (.inr 6)) (some (.inl ())))) (some (.inl ()))) (Sum.elim (fun (v3:Unit)=>Option.bind (Qa (σ:=Int) (β:=Unit⊕Int) (fun s8=>cond ((decide (s8 < (a1.levels.length:Int)))) (Option.bind (J0 a1.levels s8) fun (x10:Lvl)=>Option.bind (Q03 a0 x10) fun (x11:Int)=>cond ((x11 != 0)) (some (.done (.inr x11))) (some (.next (Qo (s8+1))))) (some (.done (.inl ())))) Qd 0) (Sum.elim (fun (v9:Unit)=>Option.bind (cond ((a1.kind==0)) (cond ((decide (a1.index < 0))) (some true) (some (decide (a0.vars≤(Qo (a1.index - a2)))))) (some false)) fun (v12:Bool)=>cond v12 (some 24) (Option.bind (cond ((a1.kind==12)) (cond ((decide (a1.index < 0))) (some true) (some (decide (a0.metas≤a1.index)))) (some false)) fun (v13:Bool)=>cond v13 (some 23) (some 0))) (fun (o14:Int)=>some o14))) (fun (o5:Int)=>some o5)))
def p59:KF UV:=⟨[.stc .t107,.stc .t25,.int .i64],[.int .i64],fun v=>Qot v.1 v.2.1 v.2.2⟩
def Hq59:Hints UV:=⟨[(5,⟨[],[],true⟩),(13,⟨[([.reg 27],.int .i64)],[],true⟩),(24,⟨[([.reg 38],.bool)],[],false⟩),(27,⟨[([.reg 56],.bool)],[],false⟩)],[]⟩
theorem p59_ok:Yy DV .any Tryz.prog 59 p59:=Zf (C:=Qr6) rfl QH Ql (QG (tb:=[(109,q109),(110,q110),(111,q111)]) Ql ⟨q109_ok,Qer,q111_ok,trivial⟩) Y5 Tryz.func59 en_59 Hq59 p59 rfl (fun v=>by kernel_rfl)
theorem n59_eq (a0:Scp) (a1:Tm) (a2:Int):Qot a0 a1 a2=Qhc a0 a1 a2:=by
 unfold Qot Qhc
 cases WS a1 with
 | none=>rfl
 | some x1=>cases x1 with
   | false=>rfl
   | true =>
     cases hk:(a1.kind==3) with
     | false=>rfl
     | true=>cases Q04 a1.name with
       | none=>rfl
       | some x4=>cases x4 with
         | false=>rfl
         | true=>cases (decide (8 < (a1.levels.length:Int))) <;> rfl
def q59:KF UV:=⟨[.stc .t107,.stc .t25,.int .i64],[.int .i64],fun v=>Qhc v.1 v.2.1 v.2.2⟩
theorem q59_ok:Yy DV .any Tryz.prog 59 q59:=⟨rfl,fun v r h=>p59_ok.2 v r ((n59_eq v.1 v.2.1 v.2.2).trans h)⟩
theorem m59_ok (a0:Scp) (a1:Tm) (a2:Int) (r:Int) (h0:Qhc a0 a1 a2=some r):Fun Tryz.prog 59 [.agg (Qqf a0),.agg (Qqf a1),.one (Qqb a2)] (Qh [.one (Qqb r)]):=FunW.any (Eq.mp (show FunW .any Tryz.prog 59 (QN DV q59.args (a0,a1,a2)) (Qh (QN DV q59.res r))=_ from by kernel_rfl) (q59_ok.2 (a0,a1,a2) r h0))
def GE (p0_:Tm×Int×Tm×Int×Scp×Int×Tm→Option ((Int×Int)⊕(Bool×Int))) (p1_:Tm) (p2_:Int) (p3_:Tm) (p4_:Int) (p5_:Scp) (p6_:Int×Int) (p7_:Tm):Option (LO (Int×Int) (Int⊕((Int×Int)⊕(Bool×Int)))) :=
 Option.bind (p0_ (p1_,p2_,p3_,p4_,p5_,p6_.2,p7_)) (Sum.elim (fun (b0_:Int×Int)=>some (.done (.inr (.inl (b0_.1,b0_.2))))) (fun (b1_:Bool×Int)=>cond (!b1_.1)
   (some (.done (.inr (.inr (false,b1_.2)))))
   (some (.next ((Qo (p6_.1+1)),b1_.2)))))
def Yc (a0:Tm) (v9:Int) (a1:Int) (rc:Tm×Int×Tm×Int×Scp×Int×Tm→Option ((Int×Int)⊕(Bool×Int))) (a2:Tm) (a3:Int) (a4:Scp) (a6:Tm) (s1:Int×Int):Option (LO (Int×Int) (Int⊕((Int×Int)⊕(Bool×Int)))) :=
 cond (decide (s1.1 < (a0.kids.length:Int)))
   (Option.bind (J0 a0.kids s1.1) fun (x12:Tm) =>
 Option.bind (cond (s1.1==v9)
   (some (Qo (a1+1)))
   (some a1)) (fun (v13:Int)=>GE rc x12 v13 a2 a3 a4 s1 a6))
   (some (.done (.inl s1.2)))
def ZE (p0_:Bool) (p1_:Tm) (p2_:Int) (p3_:Tm×Int×Tm×Int×Scp×Int×Tm→Option ((Int×Int)⊕(Bool×Int))) (p4_:Tm) (p5_:Int) (p6_:Scp) (p7_:Tm) (p8_:Int):Option ((Int×Int)⊕(Bool×Int)) :=
 Option.bind (cond p0_
   (Q7 (cond (decide (0≤p1_.kind)) (Nat.blt p1_.kind.toNat 13) false)
 (Option.bind (J0 ([(-1),(-1),(-1),(-1),(-1),1,1,1,(-1),(-1),(-1),2,(-1)]:List Int) p1_.kind) fun (b0_:Int) =>
 some b0_))
   (some (-1))) (fun (b1_:Int)=>Option.bind (Qa (Yc p1_ b1_ p2_ p3_ p4_ p5_ p6_ p7_) Qd (0,(Qo (p8_+1)))) (Sum.elim (fun (b2_:Int)=>some (.inr (true,b2_))) (fun o=>some o)))
abbrev QJ :HB :=
 .loop .ready none [(5,.v (.one (.ptr 3 0))),(10,.v (.one (.ptr 4 0))),(11,.v (.one (.ptr 5 0))),(12,.v (.one (.ptr 6 0))),(26,.v (.one (.fn 106 [(7,0)])))] 45 #[27,28] Ze Yq 2
abbrev Qf :HB :=
 .cells 156 [Qqc true,Qqc false,Qqb 0,Qqb 0,Qqb (-1),Qqc false,Qqc false,Qqb 0,Qqb 0,Qqb (-1),Qqc false,Qqc false,Qqb 1,Qqb 0,Qqb (-1),Qqc false,Qqc true,Qqb (-1),Qqb 0,Qqb (-1),Qqc false,Qqc false,Qqb 0,Qqb 2,Qqb (-1),Qqc false,Qqc false,Qqb 0,Qqb 2,Qqb 1,Qqc false,Qqc false,Qqb 0,Qqb 2,Qqb 1,Qqc false,Qqc false,Qqb 0,Qqb 2,Qqb 1,Qqc false,Qqc false,Qqb 0,Qqb 3,Qqb (-1),Qqc false,Qqc false,Qqb 0,Qqb 1,Qqb (-1),Qqc false,Qqc false,Qqb 0,Qqb 1,Qqb (-1),Qqc false,Qqc false,Qqb 0,Qqb 3,Qqb 2,Qqc true,Qqc false,Qqb 0,Qqb 0,Qqb (-1)]
abbrev m108f3_h2 (p0_:Tm) (p1_:Int) (p2_:Scp) (p3_:Int) (p4_:Tm) (p5_:Tm):List (Nat×HB) :=
 [(0,.cells 153 [.yld 1]),(1,QJ),(2,.obj (.deferred (some []))),(3,.cells 25 (Qqf p0_)),(4,.cells 28 [Qqb p1_]),(5,.cells 107 (Qqf p2_)),(6,.cells 3 [Qqb p3_]),(7,.cells 25 (Qqf p4_)),(8,Qf),(9,.cells 26 [.fn 108 [(0,0),(8,0),(9,0)]]),(10,.cells 25 (Qqf p5_))]
abbrev Kt :HB :=
 .loop .busy none [(5,.v (.one (.ptr 3 0))),(10,.v (.one (.ptr 4 0))),(11,.v (.one (.ptr 5 0))),(12,.v (.one (.ptr 6 0))),(26,.v (.one (.fn 106 [(7,0)])))] 45 #[27,28] Ze Yq 2
abbrev WD (p0_:Tm) (p1_:Int) (p2_:Scp) (p3_:Int) (p4_:Tm) (p5_:Tm):List (Nat×HB) :=
 [(0,.cells 153 [.yld 1]),(1,Kt),(2,.obj (.deferred (some []))),(3,.cells 25 (Qqf p0_)),(4,.cells 28 [Qqb p1_]),(5,.cells 107 (Qqf p2_)),(6,.cells 3 [Qqb p3_]),(7,.cells 25 (Qqf p4_)),(8,Qf),(9,.cells 26 [.fn 108 [(0,0),(8,0),(9,0)]]),(10,.cells 25 (Qqf p5_)),(11,.cells 25 (Qqf p5_))]
abbrev m108f3_h5 (p0_:Tm) (p1_:Int) (p2_:Scp) (p3_:Int) (p4_:Tm) (p5_:Tm):List (Nat×HB) :=
 [(0,.cells 153 [.yld 1]),(1,QJ),(2,.obj (.deferred (some []))),(3,.cells 25 (Qqf p0_)),(4,.cells 28 [Qqb p1_]),(5,.cells 107 (Qqf p2_)),(6,.cells 3 [Qqb p3_]),(7,.cells 25 (Qqf p4_)),(8,Qf),(9,.cells 26 [.fn 108 [(0,0),(8,0),(9,0)]]),(10,.cells 25 (Qqf p5_)),(11,.cells 25 (Qqf p5_))]
abbrev WC (p0_:Tm) (p1_:Int) (p2_:Scp) (p3_:Int) (p4_:Tm) (p5_:Tm):List (Nat×HB) :=
 [(0,.cells 153 [.yld 1]),(1,Kt),(2,.obj (.deferred (some []))),(3,.cells 25 (Qqf p0_)),(4,.cells 28 [Qqb p1_]),(5,.cells 107 (Qqf p2_)),(6,.cells 3 [Qqb p3_]),(7,.cells 25 (Qqf p4_)),(8,Qf),(9,.cells 26 [.fn 108 [(0,0),(8,0),(9,0)]]),(10,.cells 25 (Qqf p5_))]
abbrev m108f3_h7 (p0_:Tm) (p1_:Int) (p2_:Scp) (p3_:Int×Int) (p4_:Tm) (p5_:Tm) (p6_:Tm):List (Nat×HB) :=
 [(0,.cells 153 [.yld 1]),(1,QJ),(2,.obj (.deferred (some []))),(3,.cells 25 (Qqf p0_)),(4,.cells 28 [Qqb p1_]),(5,.cells 107 (Qqf p2_)),(6,.cells 3 [Qqb p3_.2]),(7,.cells 25 (Qqf p4_)),(8,Qf),(9,.cells 26 [.fn 108 [(0,0),(8,0),(9,0)]]),(10,.cells 25 (Qqf p5_)),(12,.cells 25 (Qqf p6_))]
abbrev J5 :HB :=
 .loop .done (some .ret) [(5,.v (.one (.ptr 3 0))),(10,.v (.one (.ptr 4 0))),(11,.v (.one (.ptr 5 0))),(12,.v (.one (.ptr 6 0))),(26,.v (.one (.fn 106 [(7,0)])))] 45 #[27,28] Ze Yq 2
abbrev m108f3_h9 (p0_:Tm) (p1_:Int×Int) (p2_:Scp) (p3_:Tm):List (Nat×HB) :=
 [(0,.cells 153 [.yld 1]),(1,J5),(2,.obj (.deferred (some []))),(3,.cells 25 (Qqf p0_)),(4,.cells 28 [Qqb p1_.1]),(5,.cells 107 (Qqf p2_)),(6,.cells 3 [Qqb p1_.2]),(7,.cells 25 (Qqf p3_)),(8,Qf),(9,.cells 26 [.fn 108 [(0,0),(8,0),(9,0)]])]
abbrev m108f3_h10 (p0_:Tm) (p1_:Int) (p2_:Scp) (p3_:Bool×Int) (p4_:Tm):List (Nat×HB) :=
 [(0,.cells 153 [.yld 1]),(1,QJ),(2,.obj (.deferred (some []))),(3,.cells 25 (Qqf p0_)),(4,.cells 28 [Qqb p1_]),(5,.cells 107 (Qqf p2_)),(6,.cells 3 [Qqb p3_.2]),(7,.cells 25 (Qqf p4_)),(8,Qf),(9,.cells 26 [.fn 108 [(0,0),(8,0),(9,0)]])]
abbrev ZF (p0_:Tm) (p1_:Int) (p2_:Scp) (p3_:Int) (p4_:Tm):List (Nat×HB) :=
 [(0,.cells 153 [.yld 1]),(1,QJ),(2,.obj (.deferred (some []))),(3,.cells 25 (Qqf p0_)),(4,.cells 28 [Qqb p1_]),(5,.cells 107 (Qqf p2_)),(6,.cells 3 [Qqb p3_]),(7,.cells 25 (Qqf p4_)),(8,Qf),(9,.cells 26 [.fn 108 [(0,0),(8,0),(9,0)]])]
abbrev m108f3_h12 (p0_:Tm) (p1_:Int) (p2_:Scp) (p3_:Int) (p4_:Tm):List (Nat×HB) :=
 [(0,.cells 153 [.yld 1]),(1,J5),(2,.obj (.deferred (some []))),(3,.cells 25 (Qqf p0_)),(4,.cells 28 [Qqb p1_]),(5,.cells 107 (Qqf p2_)),(6,.cells 3 [Qqb p3_]),(7,.cells 25 (Qqf p4_)),(8,Qf),(9,.cells 26 [.fn 108 [(0,0),(8,0),(9,0)]])]
def Gb (rc:Tm×Int×Tm×Int×Scp×Int×Tm→Option ((Int×Int)⊕(Bool×Int))) (a0:Tm) (a1:Int) (a2:Tm) (a3:Int) (a4:Scp) (a5:Int) (a6:Tm):Option ((Int×Int)⊕(Bool×Int)) :=
 Option.bind (Option.bind (Qhc a4 a0 a1) fun (x6:Int) =>
 cond (x6 != 0)
   (some (.inr x6))
   (some (.inl ()))) (Sum.elim (fun (y1:Unit)=>Option.bind (cond (decide (0≤a0.kind))
   (some (decide (a0.kind < 13)))
   (some false)) (fun (v8:Bool)=>ZE v8 a0 a1 rc a2 a3 a4 a6 a5)) (fun (y2:Int)=>some (.inl (y2,a5))))
def Ym (rc:Tm×Int×Tm×Int×Scp×Int×Tm→Option ((Int×Int)⊕(Bool×Int))) (u:Tm×Int×Tm×Int×Scp×Int×Tm):Option ((Int×Int)⊕(Bool×Int)):=Gb rc u.1 u.2.1 u.2.2.1 u.2.2.2.1 u.2.2.2.2.1 u.2.2.2.2.2.1 u.2.2.2.2.2.2
def Q8u (a0:Tm) (a1:Int) (a2:Tm) (a3:Int) (a4:Scp) (a5:Int) (a6:Tm):Option ((Int×Int)⊕(Bool×Int)):=Jz Ym Qd (a0,a1,a2,a3,a4,a5,a6)
theorem m108f3s_ok (rc:Tm×Int×Tm×Int×Scp×Int×Tm→Option ((Int×Int)⊕(Bool×Int))) (H:∀ (a0:Tm) (a1:Int) (a2:Tm) (a3:Int) (a4:Scp) (a5:Int) (a6:Tm) (r:(Int×Int)⊕(Bool×Int)),rc (a0,a1,a2,a3,a4,a5,a6)=some r→CallE Tryz.prog 108 [.agg (Qqf a0),.one (Qqb a1),.one (.ptr 0 0),.one (.ptr 8 0),.one (.ptr 9 0)] ⟨ZF a2 a3 a4 a5 a6,[],10⟩ ((Sum.elim (fun (r0:Int×Int)=>((.ret [.one (Qqc false)]):EK)) (fun (r1:Bool×Int)=>((.ret [.one (Qqc r1.1)]):EK))) r) ⟨((Sum.elim (fun (r0:Int×Int)=>(⟨[(7,.v (.one (Qqc false)))],[(0,.cells 153 [.yld 1]),(1,J5),(2,.obj (.deferred (some []))),(3,.cells 25 (Qqf a2)),(4,.cells 28 [Qqb r0.1]),(5,.cells 107 (Qqf a4)),(6,.cells 3 [Qqb r0.2]),(7,.cells 25 (Qqf a6)),(8,Qf),(9,.cells 26 [.fn 108 [(0,0),(8,0),(9,0)]])],[],12,50,[]⟩:St)) (fun (r1:Bool×Int)=>(⟨[(7,.v (.one (Qqc r1.1)))],[(0,.cells 153 [.yld 1]),(1,QJ),(2,.obj (.deferred (some []))),(3,.cells 25 (Qqf a2)),(4,.cells 28 [Qqb a3]),(5,.cells 107 (Qqf a4)),(6,.cells 3 [Qqb r1.2]),(7,.cells 25 (Qqf a6)),(8,Qf),(9,.cells 26 [.fn 108 [(0,0),(8,0),(9,0)]])],[],12,50,[]⟩:St))) r).hp,((Sum.elim (fun (r0:Int×Int)=>(⟨[(7,.v (.one (Qqc false)))],[(0,.cells 153 [.yld 1]),(1,J5),(2,.obj (.deferred (some []))),(3,.cells 25 (Qqf a2)),(4,.cells 28 [Qqb r0.1]),(5,.cells 107 (Qqf a4)),(6,.cells 3 [Qqb r0.2]),(7,.cells 25 (Qqf a6)),(8,Qf),(9,.cells 26 [.fn 108 [(0,0),(8,0),(9,0)]])],[],12,50,[]⟩:St)) (fun (r1:Bool×Int)=>(⟨[(7,.v (.one (Qqc r1.1)))],[(0,.cells 153 [.yld 1]),(1,QJ),(2,.obj (.deferred (some []))),(3,.cells 25 (Qqf a2)),(4,.cells 28 [Qqb a3]),(5,.cells 107 (Qqf a4)),(6,.cells 3 [Qqb r1.2]),(7,.cells 25 (Qqf a6)),(8,Qf),(9,.cells 26 [.fn 108 [(0,0),(8,0),(9,0)]])],[],12,50,[]⟩:St))) r).tk,((Sum.elim (fun (r0:Int×Int)=>(⟨[(7,.v (.one (Qqc false)))],[(0,.cells 153 [.yld 1]),(1,J5),(2,.obj (.deferred (some []))),(3,.cells 25 (Qqf a2)),(4,.cells 28 [Qqb r0.1]),(5,.cells 107 (Qqf a4)),(6,.cells 3 [Qqb r0.2]),(7,.cells 25 (Qqf a6)),(8,Qf),(9,.cells 26 [.fn 108 [(0,0),(8,0),(9,0)]])],[],12,50,[]⟩:St)) (fun (r1:Bool×Int)=>(⟨[(7,.v (.one (Qqc r1.1)))],[(0,.cells 153 [.yld 1]),(1,QJ),(2,.obj (.deferred (some []))),(3,.cells 25 (Qqf a2)),(4,.cells 28 [Qqb a3]),(5,.cells 107 (Qqf a4)),(6,.cells 3 [Qqb r1.2]),(7,.cells 25 (Qqf a6)),(8,Qf),(9,.cells 26 [.fn 108 [(0,0),(8,0),(9,0)]])],[],12,50,[]⟩:St))) r).nx⟩) (a0:Tm) (a1:Int) (a2:Tm) (a3:Int) (a4:Scp) (a5:Int) (a6:Tm) (r:(Int×Int)⊕(Bool×Int)) (h0:Gb rc a0 a1 a2 a3 a4 a5 a6=some r):CallE Tryz.prog 108 [.agg (Qqf a0),.one (Qqb a1),.one (.ptr 0 0),.one (.ptr 8 0),.one (.ptr 9 0)] ⟨ZF a2 a3 a4 a5 a6,[],10⟩ ((Sum.elim (fun (r0:Int×Int)=>((.ret [.one (Qqc false)]):EK)) (fun (r1:Bool×Int)=>((.ret [.one (Qqc r1.1)]):EK))) r) ⟨((Sum.elim (fun (r0:Int×Int)=>(⟨[(7,.v (.one (Qqc false)))],[(0,.cells 153 [.yld 1]),(1,J5),(2,.obj (.deferred (some []))),(3,.cells 25 (Qqf a2)),(4,.cells 28 [Qqb r0.1]),(5,.cells 107 (Qqf a4)),(6,.cells 3 [Qqb r0.2]),(7,.cells 25 (Qqf a6)),(8,Qf),(9,.cells 26 [.fn 108 [(0,0),(8,0),(9,0)]])],[],12,50,[]⟩:St)) (fun (r1:Bool×Int)=>(⟨[(7,.v (.one (Qqc r1.1)))],[(0,.cells 153 [.yld 1]),(1,QJ),(2,.obj (.deferred (some []))),(3,.cells 25 (Qqf a2)),(4,.cells 28 [Qqb a3]),(5,.cells 107 (Qqf a4)),(6,.cells 3 [Qqb r1.2]),(7,.cells 25 (Qqf a6)),(8,Qf),(9,.cells 26 [.fn 108 [(0,0),(8,0),(9,0)]])],[],12,50,[]⟩:St))) r).hp,((Sum.elim (fun (r0:Int×Int)=>(⟨[(7,.v (.one (Qqc false)))],[(0,.cells 153 [.yld 1]),(1,J5),(2,.obj (.deferred (some []))),(3,.cells 25 (Qqf a2)),(4,.cells 28 [Qqb r0.1]),(5,.cells 107 (Qqf a4)),(6,.cells 3 [Qqb r0.2]),(7,.cells 25 (Qqf a6)),(8,Qf),(9,.cells 26 [.fn 108 [(0,0),(8,0),(9,0)]])],[],12,50,[]⟩:St)) (fun (r1:Bool×Int)=>(⟨[(7,.v (.one (Qqc r1.1)))],[(0,.cells 153 [.yld 1]),(1,QJ),(2,.obj (.deferred (some []))),(3,.cells 25 (Qqf a2)),(4,.cells 28 [Qqb a3]),(5,.cells 107 (Qqf a4)),(6,.cells 3 [Qqb r1.2]),(7,.cells 25 (Qqf a6)),(8,Qf),(9,.cells 26 [.fn 108 [(0,0),(8,0),(9,0)]])],[],12,50,[]⟩:St))) r).tk,((Sum.elim (fun (r0:Int×Int)=>(⟨[(7,.v (.one (Qqc false)))],[(0,.cells 153 [.yld 1]),(1,J5),(2,.obj (.deferred (some []))),(3,.cells 25 (Qqf a2)),(4,.cells 28 [Qqb r0.1]),(5,.cells 107 (Qqf a4)),(6,.cells 3 [Qqb r0.2]),(7,.cells 25 (Qqf a6)),(8,Qf),(9,.cells 26 [.fn 108 [(0,0),(8,0),(9,0)]])],[],12,50,[]⟩:St)) (fun (r1:Bool×Int)=>(⟨[(7,.v (.one (Qqc r1.1)))],[(0,.cells 153 [.yld 1]),(1,QJ),(2,.obj (.deferred (some []))),(3,.cells 25 (Qqf a2)),(4,.cells 28 [Qqb a3]),(5,.cells 107 (Qqf a4)),(6,.cells 3 [Qqb r1.2]),(7,.cells 25 (Qqf a6)),(8,Qf),(9,.cells 26 [.fn 108 [(0,0),(8,0),(9,0)]])],[],12,50,[]⟩:St))) r).nx⟩:=by
 unfold Gb at h0
 refine CallE.of_body r ((Sum.elim (fun (r0:Int×Int)=>(⟨[(7,.v (.one (Qqc false)))],[(0,.cells 153 [.yld 1]),(1,J5),(2,.obj (.deferred (some []))),(3,.cells 25 (Qqf a2)),(4,.cells 28 [Qqb r0.1]),(5,.cells 107 (Qqf a4)),(6,.cells 3 [Qqb r0.2]),(7,.cells 25 (Qqf a6)),(8,Qf),(9,.cells 26 [.fn 108 [(0,0),(8,0),(9,0)]])],[],12,50,[]⟩:St)) (fun (r1:Bool×Int)=>(⟨[(7,.v (.one (Qqc r1.1)))],[(0,.cells 153 [.yld 1]),(1,QJ),(2,.obj (.deferred (some []))),(3,.cells 25 (Qqf a2)),(4,.cells 28 [Qqb a3]),(5,.cells 107 (Qqf a4)),(6,.cells 3 [Qqb r1.2]),(7,.cells 25 (Qqf a6)),(8,Qf),(9,.cells 26 [.fn 108 [(0,0),(8,0),(9,0)]])],[],12,50,[]⟩:St)))) ((Sum.elim (fun (r0:Int×Int)=>((.ret [.one (Qqc false)]):EK)) (fun (r1:Bool×Int)=>((.ret [.one (Qqc r1.1)]):EK)))) rfl rfl en_108 (Qpu rfl) (fun z_=>by cases z_ with
 | inl _=>exact rfl
 | inr _=>exact rfl) (fun z_=>by cases z_ with
 | inl _=>exact (Qp1 (Jj rfl .nil))
 | inr _=>exact (Qp1 (Jj rfl .nil))) (fun w0 M V0 Q hv0 hQ0=>?_)
 simp only [J4]
 refine Q4<|Q0<|Qk Z Z (Qpu Z) (JZ Z)<|Qpn Z Z Z<|Q3<|Q5<|Q4<|Q4<|Q0<|Qpl Z Z Z (Q6 ag_153 Z Z Z)<|Qpm Z Z Z<|Qpl Z Z Z (ZM (a0:Tm) Dw Z Z) ?_
 refine Qv h0 (fun y3 h1 h0=>?_)
 have ha4:ExecOK Tryz.prog (some 1) Ze ⟨[(5,.v (.one (.ptr 3 0))),(10,.v (.one (.ptr 4 0))),(11,.v (.one (.ptr 5 0))),(12,.v (.one (.ptr 6 0))),(26,.v (.one (.fn 106 [(7,0)]))),(27,.v (.one (Qqb a1))),(28,.v (.agg (Qqf a0)))],m108f3_h2 a2 a3 a4 a5 a6 a0,[],11,45,[]⟩ .normal ⟨[(10,.v (.one (.ptr 4 0))),(11,.v (.one (.ptr 5 0))),(12,.v (.one (.ptr 6 0))),(13,.v (.one (Qqb a1))),(14,.v (.one (.ptr 11 0)))],m108f3_h5 a2 a3 a4 a5 a6 a0,[],12,45,[]⟩:=by
  refine Q1s (fun w0 M V0 ro n Q hv1 hro1 hQn1=>?_)
  refine Q4<|Q0<|Qpn Z Z Z<|Q3<|Q5<|Q0<|Qk Z Z (Qpu Z) (QR Qn1 Z)<|QQ Z Z (Zs (a0:Tm) Dw Z Z Z Z Z)<|Q3 ?_
  exact Qkc hQn1 (Qpi (Ca hv1 (Qpu Z)) Z Z Z Z Z)
 have hb5:ExecOK Tryz.prog (some 1) Yq ⟨[(10,.v (.one (.ptr 4 0))),(11,.v (.one (.ptr 5 0))),(12,.v (.one (.ptr 6 0))),(13,.v (.one (Qqb a1))),(14,.v (.one (.ptr 11 0)))],WD a2 a3 a4 a5 a6 a0,[],12,45,[]⟩ ((Sum.elim (fun (_:Unit)=>(.normal:Exit)) (fun (_:Int)=>(.ret:Exit))) y3) ((Sum.elim (fun (y1:Unit)=>(⟨[],[(0,.cells 153 [.yld 1]),(1,Kt),(2,.obj (.deferred (some []))),(3,.cells 25 (Qqf a2)),(4,.cells 28 [Qqb a3]),(5,.cells 107 (Qqf a4)),(6,.cells 3 [Qqb (Qo (a5+1))]),(7,.cells 25 (Qqf a6)),(8,Qf),(9,.cells 26 [.fn 108 [(0,0),(8,0),(9,0)]]),(10,.cells 25 (Qqf a0))],[],12,45,[]⟩:St)) (fun (y2:Int)=>(⟨[],WC a2 y2 a4 a5 a6 a0,[],12,45,[]⟩:St))) y3):=by
  refine Q1s (fun w0 M V0 ro n Q hv1 hro1 hQn1=>?_)
  refine QF<|Q4<|Q4<|Q0<|Qpl Z Z Z (ZM (a4:Scp) Qkb Z Z)<|Qpl Z Z Z (ZM (a0:Tm) Dw Z Z)<|Qpm Z Z Z ?_
  refine Qv h1 (fun x6 hx6 h1=>?_)
  refine Qk Z Z (Qpu Z) (Y8 (m59_ok a4 a0 a1 x6 hx6) Z (.cons (.agg (.cons (.d _) (.cons (.d _) (.cons (.d _) (.cons (.d _) .nil))))) (.cons (.agg (.cons (.d _) (.cons (.d _) (.cons (.d _) (.cons (.d _) (.cons (.d _) .nil)))))) (.cons (.one (.d _)) .nil))))<|Qpn Z Z Z<|Q3<|Q5<|Q4<|Q0<|Qpm Z Z Z<|Qpl Z Z Z (Qb Z Z Z)<|Q3<|Q5 ?_
  refine Qy (b:=(x6 != 0)) Z (fun c7=>?_) (fun c7=>?_)
  replace h1:=QD c7 h1
  refine Q4<|Q0<|Qpm Z Z Z<|QQ Z Z (Qi GS Z Z Z Z (Qpu Z) Z)<|Q3<|Q5<|QT ?_
  have e:=Qpj h1;subst e
  exact Qkc (e:=.ret) (st':=⟨[],WC a2 x6 a4 a5 a6 a0,[],12,45,[]⟩) hQn1 (Qpi (Ca hv1 (Qpu Z)) Z Z Z Z Z)
  replace h1:=QE c7 h1
  refine QX<|Q5<|Q0<|Qpl Z Z Z (Q6 JY Z Z Z)<|Qpl Z Z Z (Qb Z Z Z)<|QQ Z Z (Qi JY Z Z Z Z (Qpu Z) Z)<|Q3<|Jh ?_
  have e:=Qpj h1;subst e
  exact Qkc (e:=.normal) (st':=⟨[],[(0,.cells 153 [.yld 1]),(1,Kt),(2,.obj (.deferred (some []))),(3,.cells 25 (Qqf a2)),(4,.cells 28 [Qqb a3]),(5,.cells 107 (Qqf a4)),(6,.cells 3 [Qqb (Qo (a5+1))]),(7,.cells 25 (Qqf a6)),(8,Qf),(9,.cells 26 [.fn 108 [(0,0),(8,0),(9,0)]]),(10,.cells 25 (Qqf a0))],[],12,45,[]⟩) hQn1 (Qpi (Ca hv1 (Qpu Z)) Z Z Z Z Z)
 refine Qn7 (C:=fun q_=>ExecOK Tryz.prog (some 1) Yq ⟨[(10,.v (.one (.ptr 4 0))),(11,.v (.one (.ptr 5 0))),(12,.v (.one (.ptr 6 0))),(13,.v (.one (Qqb a1))),(14,.v (.one (.ptr 11 0)))],WD a2 a3 a4 a5 a6 a0,[],12,45,[]⟩ ((Sum.elim (fun (_:Unit)=>(.normal:Exit)) (fun (_:Int)=>(.ret:Exit))) q_) ((Sum.elim (fun (y1:Unit)=>(⟨[],[(0,.cells 153 [.yld 1]),(1,Kt),(2,.obj (.deferred (some []))),(3,.cells 25 (Qqf a2)),(4,.cells 28 [Qqb a3]),(5,.cells 107 (Qqf a4)),(6,.cells 3 [Qqb (Qo (a5+1))]),(7,.cells 25 (Qqf a6)),(8,Qf),(9,.cells 26 [.fn 108 [(0,0),(8,0),(9,0)]]),(10,.cells 25 (Qqf a0))],[],12,45,[]⟩:St)) (fun (y2:Int)=>(⟨[],WC a2 y2 a4 a5 a6 a0,[],12,45,[]⟩:St))) q_)) hb5 h0 (fun y1 hb5 h0=>?_) (fun y2 hb5 h0=>?_)
 replace hb5:ExecOK Tryz.prog (some 1) Yq ⟨[(10,.v (.one (.ptr 4 0))),(11,.v (.one (.ptr 5 0))),(12,.v (.one (.ptr 6 0))),(13,.v (.one (Qqb a1))),(14,.v (.one (.ptr 11 0)))],WD a2 a3 a4 a5 a6 a0,[],12,45,[]⟩ .normal ⟨[],[(0,.cells 153 [.yld 1]),(1,Kt),(2,.obj (.deferred (some []))),(3,.cells 25 (Qqf a2)),(4,.cells 28 [Qqb a3]),(5,.cells 107 (Qqf a4)),(6,.cells 3 [Qqb (Qo (a5+1))]),(7,.cells 25 (Qqf a6)),(8,Qf),(9,.cells 26 [.fn 108 [(0,0),(8,0),(9,0)]]),(10,.cells 25 (Qqf a0))],[],12,45,[]⟩:=hb5
 refine Qk Z Z (Qpu Z) (Q57 (jump:=none) Z Z Z Z Z (Gi ha4 (fun E hv=>(Qpi (Ca hv (Qpu Z)) Z Z Z Z Z))) Z (Gi hb5 (fun E hv=>(Qpi (Ca hv (Qpu Z)) Z Z Z Z Z))) Z Z) ?_
 refine Qpl Z Z Z (Gt Z)<|Q3<|Q5 ?_
 refine Qy Z (fun h=>nomatch h) (fun _=>?_)
 refine QX<|Q5<|Q4<|Q0<|Qpn Z Z Z<|Q3<|Q5<|Q4<|Q4 ?_
 refine Jp (fun (v8:Bool)=>⟨[(1,.v (.one (Qqb a1))),(3,.v (.one (.ptr 8 0))),(4,.v (.one (.ptr 9 0))),(5,.v (.one (.ptr 10 0))),(8,.v (.one (Qqb (-1)))),(24,.v (.one (Qqc v8)))],[(0,.cells 153 [.yld 1]),(1,QJ),(2,.obj (.deferred (some []))),(3,.cells 25 (Qqf a2)),(4,.cells 28 [Qqb a3]),(5,.cells 107 (Qqf a4)),(6,.cells 3 [Qqb (Qo (a5+1))]),(7,.cells 25 (Qqf a6)),(8,Qf),(9,.cells 26 [.fn 108 [(0,0),(8,0),(9,0)]]),(10,.cells 25 (Qqf a0))],[],12,50,[]⟩) (fun (v8:Bool)=>(ZE v8 a0 a1 rc a2 a3 a4 a6 a5)=some r) ?_ ?_
 refine Qv h0 (fun w1_ h1 h0=>?_)
 refine Q0<|Qpl Z Z Z (Q2 Xl Z)<|Qpl Z Z Z (Q6 JY Z Z Z)<|Qpl Z Z Z (Qb Z Z Z)<|Qpm Z Z Z ?_
 refine QZ (d:=20) (c:=(decide (0≤a0.kind))) Z (fun c9=>?_) (fun c9=>?_)
 replace h1:=QD c9 h1
 refine Qpl Z Z Z (Q2 Xl Z)<|Qpl Z Z Z (Q6 JY Z Z Z)<|Qpl Z Z Z (Qb Z Z Z)<|Qpl Z Z Z (Qm Z Z)<|Q3 ?_
 have e:=Qpj h1;subst e
 exact Qj (decide (a0.kind < 13)) (Qpi (Ca hv0 (Qpu Z)) Z Z Z Z Z) h0
 replace h1:=QE c9 h1
 refine Q8 Z Z<|Q8 Z Z<|Q8 Z Z<|Qpl Z Z Z (Qz Z Z)<|Q3 ?_
 have e:=Qpj h1;subst e
 exact Qj false (Qpi (Ca hv0 (Qpu Z)) Z Z Z Z Z) h0
 intro v8 h0
 unfold ZE at h0
 refine Q5 ?_
 refine Jp (fun (v10:Int)=>⟨[(1,.v (.one (Qqb a1))),(4,.v (.one (.ptr 9 0))),(5,.v (.one (.ptr 10 0))),(8,.v (.one (Qqb v10)))],[(0,.cells 153 [.yld 1]),(1,QJ),(2,.obj (.deferred (some []))),(3,.cells 25 (Qqf a2)),(4,.cells 28 [Qqb a3]),(5,.cells 107 (Qqf a4)),(6,.cells 3 [Qqb (Qo (a5+1))]),(7,.cells 25 (Qqf a6)),(8,Qf),(9,.cells 26 [.fn 108 [(0,0),(8,0),(9,0)]]),(10,.cells 25 (Qqf a0))],[],12,50,[]⟩) (fun (v10:Int)=>(Option.bind (Qa (Yc a0 v10 a1 rc a2 a3 a4 a6) Qd (0,(Qo (a5+1)))) (Sum.elim (fun (o11:Int)=>some (.inr (true,o11))) (fun o=>some o)))=some r) ?_ ?_
 refine Qv h0 (fun w1_ h1 h0=>?_)
 refine Qy (b:=v8) Z (fun c11=>?_) (fun c11=>?_)
 replace h1:=QD c11 h1
 refine Q0<|Qpl Z Z Z (Q2 Xl Z)<|Qpl Z Z Z (Q6 JY Z Z Z) ?_
 refine Uz h1 (fun g12 h1=>?_)
 refine Qpl Z Z Z (RO.indexA arr_156 Z Z g12)<|Qpl Z Z Z (Q2 fo_155_4 Z) ?_
 refine Qv h1 (fun x13 hx13 h1=>?_)
 refine Qpl Z Z Z (RO.loadCol (m:=a0.kind) (sz:=5) (f:=4) (col:=([(-1),(-1),(-1),(-1),(-1),1,1,1,(-1),(-1),(-1),2,(-1)]:List Int)) JY Z Z Z hx13)<|Qpn Z Z Z<|Q3 ?_
 have e:=Qpj h1;subst e
 exact Qj x13 (Qpi (Ca hv0 (Qpu Z)) Z Z Z Z Z) h0
 replace h1:=QE c11 h1
 refine QX ?_
 have e:=Qpj h1;subst e
 exact Qj (-1) (Qpi (Ca hv0 (Qpu Z)) Z Z Z Z Z) h0
 intro v10 h0
 refine Q5<|Q4<|Q4<|Q0<|Qpl Z Z Z (Q2 Ki Z)<|Qpl Z Z Z (Q6 Dx Z Z Z)<|Qpl Z Z Z (JG (α:=Tm) WW Z (.d _))<|Qpm Z Z Z<|Q3<|Q5<|QF ?_
 refine KX 0 (fun (o14:Int)=>⟨[],[(0,.cells 153 [.yld 1]),(1,QJ),(2,.obj (.deferred (some []))),(3,.cells 25 (Qqf a2)),(4,.cells 28 [Qqb a3]),(5,.cells 107 (Qqf a4)),(6,.cells 3 [Qqb o14]),(7,.cells 25 (Qqf a6)),(8,Qf),(9,.cells 26 [.fn 108 [(0,0),(8,0),(9,0)]]),(10,.cells 25 (Qqf a0))],[],12,50,[]⟩) (fun (o14:Int)=>(some (.inr (true,o14)))=some r) ?_ ?_
 refine Qv h0 (fun o15 hl1 h0=>?_)
 refine KW (Yc a0 v10 a1 rc a2 a3 a4 a6) (fun s1=>⟨[(1,.v (.one (Qqb a1))),(4,.v (.one (.ptr 9 0))),(8,.v (.one (Qqb v10))),(31,.v (.one (Qq9 a0.kids))),(32,.v (.one (Qqb (a0.kids.length:Int)))),(33,.v (.one (Qqb s1.1)))],[(0,.cells 153 [.yld 1]),(1,QJ),(2,.obj (.deferred (some []))),(3,.cells 25 (Qqf a2)),(4,.cells 28 [Qqb a3]),(5,.cells 107 (Qqf a4)),(6,.cells 3 [Qqb s1.2]),(7,.cells 25 (Qqf a6)),(8,Qf),(9,.cells 26 [.fn 108 [(0,0),(8,0),(9,0)]]),(10,.cells 25 (Qqf a0))],[],12,50,[]⟩) (0,(Qo (a5+1))) o15 (Qpi (Ca hv0 (Qpu Z)) Z Z Z Z Z) hl1 (fun s1 n1 oo1 h1 ho1=>?_)
 unfold Yc at h1
 refine Q4<|Q0<|Qpl Z Z Z (Qb Z Z Z)<|Q3<|Q5<|Q4 ?_
 refine Qy (b:=(decide (s1.1 < (a0.kids.length:Int)))) Z (fun c16=>?_) (fun c16=>?_)
 replace h1:=QD c16 h1
 refine QX<|Q5<|Q4<|QF<|Q4<|Q0<|Qpm Z Z Z ?_
 refine Qv h1 (fun x17 hx17 h1=>?_)
 refine Qpl Z Z Z (GX (α:=Tm) WW Z (.d _) Z hx17)<|Qpl Z Z Z (Kk (x17:Tm) Dw Z)<|Qk Z Z (Qpu Z) (QR Qn1 Z)<|Qpn Z Z Z<|QQ Z Z (Zs (x17:Tm) Dw Z Z Z Z Z)<|Q3<|Q5<|Q4<|Q0<|Qpm Z Z Z<|Qpn Z Z Z<|Q3<|Q5<|Q4 ?_
 refine Q4<|Q0<|Qpm Z Z Z<|Qpm Z Z Z<|Qpl Z Z Z (Qb Z Z Z)<|Q3<|Q5 ?_
 refine Jp (fun (v18:Int)=>⟨[(1,.v (.one (Qqb a1))),(4,.v (.one (.ptr 9 0))),(8,.v (.one (Qqb v10))),(10,.v (.one (.ptr 12 0))),(11,.v (.one (Qqb v18))),(31,.v (.one (Qq9 a0.kids))),(32,.v (.one (Qqb (a0.kids.length:Int)))),(33,.v (.one (Qqb s1.1)))],m108f3_h7 a2 a3 a4 s1 a6 a0 x17,[],13,50,[]⟩) (fun (v18:Int)=>(GE rc x17 v18 a2 a3 a4 s1 a6)=some oo1) ?_ ?_
 refine Qv h1 (fun w2_ h2 h1=>?_)
 refine Qy (b:=(s1.1==v10)) Z (fun c19=>?_) (fun c19=>?_)
 replace h2:=QD c19 h2
 refine Q0<|Qpm Z Z Z<|Qpl Z Z Z (Qb Z Z Z)<|Qpn Z Z Z<|Q3 ?_
 have e:=Qpj h2;subst e
 exact Qj (Qo (a1+1)) (Qpi (Ca hv0 (Qpu Z)) Z Z Z Z Z) h1
 replace h2:=QE c19 h2
 refine QX ?_
 have e:=Qpj h2;subst e
 exact Qj a1 (Qpi (Ca hv0 (Qpu Z)) Z Z Z Z Z) h1
 intro v18 h1
 unfold GE at h1
 refine Q5<|Q4<|Q0<|Qpl Z Z Z (Q6 Qk9 Z Z Z)<|Qpl Z Z Z (ZM (x17:Tm) Dw Z Z)<|Qpm Z Z Z ?_
 refine Qv h1 (fun x20 hx20 h1=>?_)
 refine Qn8 id hx20 h1 (fun x21 hx21 h1=>?_) (fun x22 hx22 h1=>?_)
 refine Qk Z Z (Qpu Z) (Qn (hp1':=[(0,.cells 153 [.yld 1]),(1,.loop .done (some .ret) [(5,.v (.one (.ptr 3 0))),(10,.v (.one (.ptr 4 0))),(11,.v (.one (.ptr 5 0))),(12,.v (.one (.ptr 6 0))),(26,.v (.one (.fn 106 [(7,0)])))] 45 #[27,28] Ze Yq 2),(2,.obj (.deferred (some []))),(3,.cells 25 (Qqf a2)),(4,.cells 28 [Qqb x21.1]),(5,.cells 107 (Qqf a4)),(6,.cells 3 [Qqb x21.2]),(7,.cells 25 (Qqf a6)),(8,.cells 156 [Qqc true,Qqc false,Qqb 0,Qqb 0,Qqb (-1),Qqc false,Qqc false,Qqb 0,Qqb 0,Qqb (-1),Qqc false,Qqc false,Qqb 1,Qqb 0,Qqb (-1),Qqc false,Qqc true,Qqb (-1),Qqb 0,Qqb (-1),Qqc false,Qqc false,Qqb 0,Qqb 2,Qqb (-1),Qqc false,Qqc false,Qqb 0,Qqb 2,Qqb 1,Qqc false,Qqc false,Qqb 0,Qqb 2,Qqb 1,Qqc false,Qqc false,Qqb 0,Qqb 2,Qqb 1,Qqc false,Qqc false,Qqb 0,Qqb 3,Qqb (-1),Qqc false,Qqc false,Qqb 0,Qqb 1,Qqb (-1),Qqc false,Qqc false,Qqb 0,Qqb 1,Qqb (-1),Qqc false,Qqc false,Qqb 0,Qqb 3,Qqb 2,Qqc true,Qqc false,Qqb 0,Qqb 0,Qqb (-1)]),(9,.cells 26 [.fn 108 [(0,0),(8,0),(9,0)]])]) (tk1':=[]) (hpF:=[(10,.cells 25 (Qqf a0)),(12,.cells 25 (Qqf x17))]) (tkF:=[]) (res2:=Qh [.one (Qqc false)]) (nx2:=15) [0,1,2,3,4,5,6,7,8,9] Z Z (CallE.m (H x17 v18 a2 a3 a4 s1.2 a6 (.inl x21) hx21)) Z Z (Qpq Z Z (Qpq Z Z (Qpq Z Z (Qpq Z Z (Qpq Z Z (Qpq Z Z (Qpq Z Z (Qpq Z Z (Qpq Z Z (Qpq Z Z Qpo)))))))))) Z Z (Qq6 Z (Qq6 Z (Qq6 Z (Qq6 Z (Qq6 Z (Qq6 Z (Qq6 Z (Qq6 Z (Qq6 Z (Qq6 Z Qq5)))))))))) Qq0 (hA Z) Qpv Z Z Z Z Z (Qqm Z) Z Z Z Z)<|Qpl Z Z Z (Gt Z)<|Q3<|Q5 ?_
 refine Qy Z (fun _=>?_) (fun h=>nomatch h)
 refine Q4<|Q0<|Qpn Z Z Z<|Q3<|Q5<|QT ?_
 have e:=Qpj h1;subst e
 have e_:_=_:=ho1
 subst e_
 try dsimp only [Sum.elim_inl,Sum.elim_inr] at h0
 have e:=Qpj h0;subst e
 exact hQ0 _ _ Qom Z (show StLe _ _ ⟨[(7,.v (.one (Qqc false)))],m108f3_h9 a2 x21 a4 a6,[],12,50,[]⟩ from (Qpi (Ca hv0 (Qpu Z)) Z Z Z Z Z))
 refine Qk Z Z (Qpu Z) (Qn (hp1':=[(0,.cells 153 [.yld 1]),(1,.loop .ready none [(5,.v (.one (.ptr 3 0))),(10,.v (.one (.ptr 4 0))),(11,.v (.one (.ptr 5 0))),(12,.v (.one (.ptr 6 0))),(26,.v (.one (.fn 106 [(7,0)])))] 45 #[27,28] Ze Yq 2),(2,.obj (.deferred (some []))),(3,.cells 25 (Qqf a2)),(4,.cells 28 [Qqb a3]),(5,.cells 107 (Qqf a4)),(6,.cells 3 [Qqb x22.2]),(7,.cells 25 (Qqf a6)),(8,.cells 156 [Qqc true,Qqc false,Qqb 0,Qqb 0,Qqb (-1),Qqc false,Qqc false,Qqb 0,Qqb 0,Qqb (-1),Qqc false,Qqc false,Qqb 1,Qqb 0,Qqb (-1),Qqc false,Qqc true,Qqb (-1),Qqb 0,Qqb (-1),Qqc false,Qqc false,Qqb 0,Qqb 2,Qqb (-1),Qqc false,Qqc false,Qqb 0,Qqb 2,Qqb 1,Qqc false,Qqc false,Qqb 0,Qqb 2,Qqb 1,Qqc false,Qqc false,Qqb 0,Qqb 2,Qqb 1,Qqc false,Qqc false,Qqb 0,Qqb 3,Qqb (-1),Qqc false,Qqc false,Qqb 0,Qqb 1,Qqb (-1),Qqc false,Qqc false,Qqb 0,Qqb 1,Qqb (-1),Qqc false,Qqc false,Qqb 0,Qqb 3,Qqb 2,Qqc true,Qqc false,Qqb 0,Qqb 0,Qqb (-1)]),(9,.cells 26 [.fn 108 [(0,0),(8,0),(9,0)]])]) (tk1':=[]) (hpF:=[(10,.cells 25 (Qqf a0)),(12,.cells 25 (Qqf x17))]) (tkF:=[]) (res2:=Qh [.one (Qqc x22.1)]) (nx2:=15) [0,1,2,3,4,5,6,7,8,9] Z Z (CallE.m (H x17 v18 a2 a3 a4 s1.2 a6 (.inr x22) hx22)) Z Z (Qpq Z Z (Qpq Z Z (Qpq Z Z (Qpq Z Z (Qpq Z Z (Qpq Z Z (Qpq Z Z (Qpq Z Z (Qpq Z Z (Qpq Z Z Qpo)))))))))) Z Z (Qq6 Z (Qq6 Z (Qq6 Z (Qq6 Z (Qq6 Z (Qq6 Z (Qq6 Z (Qq6 Z (Qq6 Z (Qq6 Z Qq5)))))))))) Qq0 (hA Z) Qpv Z Z Z Z Z (Qqm Z) Z Z Z Z)<|Qpl Z Z Z (Gt Z)<|Q3<|Q5 ?_
 refine Qy (b:=(!x22.1)) Z (fun c23=>?_) (fun c23=>?_)
 replace h1:=QD c23 h1
 refine Q4<|Q0<|Qpn Z Z Z<|Q3<|Q5<|QT ?_
 have e:=Qpj h1;subst e
 have e_:_=_:=ho1
 subst e_
 try dsimp only [Sum.elim_inl,Sum.elim_inr] at h0
 have e:=Qpj h0;subst e
 exact hQ0 _ _ Qom Z (show StLe _ _ ⟨[(7,.v (.one (Qqc false)))],m108f3_h10 a2 a3 a4 x22 a6,[],12,50,[]⟩ from (Qpi (Ca hv0 (Qpu Z)) Z Z Z Z Z))
 replace h1:=QE c23 h1
 refine QX<|Jh<|Q5<|Q0<|Qpl Z Z Z (Qb Z Z Z)<|Qpm Z Z Z<|Q3 ?_
 have e:=Qpj h1;subst e
 refine KU ((Qo (s1.1+1)),x22.2) (Qpi (Ca hv0 (Qpu Z)) Z Z Z Z Z) ho1
 replace h1:=QE c16 h1
 refine Gh<|JN<|JN ?_
 have e:=Qpj h1;subst e
 have e_:_=_:=ho1
 subst e_
 exact KV s1.2 (Qpi (Ca hv0 (Qpu Z)) Z Z Z Z Z) h0
 intro o14 h0
 refine Z4<|Q5<|Q4<|Q0<|Qpn Z Z Z<|Q3<|Q5<|QT ?_
 have e:=Qpj h0;subst e
 exact hQ0 _ _ Qom Z (show StLe _ _ ⟨[(7,.v (.one (Qqc true)))],ZF a2 a3 a4 o14 a6,[],12,50,[]⟩ from (Qpi (Ca hv0 (Qpu Z)) Z Z Z Z Z))
 replace hb5:ExecOK Tryz.prog (some 1) Yq ⟨[(10,.v (.one (.ptr 4 0))),(11,.v (.one (.ptr 5 0))),(12,.v (.one (.ptr 6 0))),(13,.v (.one (Qqb a1))),(14,.v (.one (.ptr 11 0)))],WD a2 a3 a4 a5 a6 a0,[],12,45,[]⟩ .ret ⟨[],WC a2 y2 a4 a5 a6 a0,[],12,45,[]⟩:=hb5
 refine Qk Z Z (Qpu Z) (Q57 (jump:=(some .ret)) Z Z Z Z Z (Gi ha4 (fun E hv=>(Qpi (Ca hv (Qpu Z)) Z Z Z Z Z))) Z (Gi hb5 (fun E hv=>(Qpi (Ca hv (Qpu Z)) Z Z Z Z Z))) Z Z) ?_
 refine Qpl Z Z Z (Gt Z)<|Q3<|Q5 ?_
 refine Qy Z (fun _=>?_) (fun h=>nomatch h)
 refine Q4<|Q0<|Qpn Z Z Z<|Q3<|Q5<|QT ?_
 have e:=Qpj h0;subst e
 exact hQ0 _ _ Qom Z (show StLe _ _ ⟨[(7,.v (.one (Qqc false)))],m108f3_h12 a2 y2 a4 a5 a6,[],12,50,[]⟩ from (Qpi (Ca hv0 (Qpu Z)) Z Z Z Z Z))
theorem m108f3_all (n:Nat) (u:Tm×Int×Tm×Int×Scp×Int×Tm) (r:(Int×Int)⊕(Bool×Int)) (h0:Jz Ym n u=some r):CallE Tryz.prog 108 [.agg (Qqf u.1),.one (Qqb u.2.1),.one (.ptr 0 0),.one (.ptr 8 0),.one (.ptr 9 0)] ⟨ZF u.2.2.1 u.2.2.2.1 u.2.2.2.2.1 u.2.2.2.2.2.1 u.2.2.2.2.2.2,[],10⟩ ((Sum.elim (fun (r0:Int×Int)=>((.ret [.one (Qqc false)]):EK)) (fun (r1:Bool×Int)=>((.ret [.one (Qqc r1.1)]):EK))) r) ⟨((Sum.elim (fun (r0:Int×Int)=>(⟨[(7,.v (.one (Qqc false)))],[(0,.cells 153 [.yld 1]),(1,J5),(2,.obj (.deferred (some []))),(3,.cells 25 (Qqf u.2.2.1)),(4,.cells 28 [Qqb r0.1]),(5,.cells 107 (Qqf u.2.2.2.2.1)),(6,.cells 3 [Qqb r0.2]),(7,.cells 25 (Qqf u.2.2.2.2.2.2)),(8,Qf),(9,.cells 26 [.fn 108 [(0,0),(8,0),(9,0)]])],[],12,50,[]⟩:St)) (fun (r1:Bool×Int)=>(⟨[(7,.v (.one (Qqc r1.1)))],[(0,.cells 153 [.yld 1]),(1,QJ),(2,.obj (.deferred (some []))),(3,.cells 25 (Qqf u.2.2.1)),(4,.cells 28 [Qqb u.2.2.2.1]),(5,.cells 107 (Qqf u.2.2.2.2.1)),(6,.cells 3 [Qqb r1.2]),(7,.cells 25 (Qqf u.2.2.2.2.2.2)),(8,Qf),(9,.cells 26 [.fn 108 [(0,0),(8,0),(9,0)]])],[],12,50,[]⟩:St))) r).hp,((Sum.elim (fun (r0:Int×Int)=>(⟨[(7,.v (.one (Qqc false)))],[(0,.cells 153 [.yld 1]),(1,J5),(2,.obj (.deferred (some []))),(3,.cells 25 (Qqf u.2.2.1)),(4,.cells 28 [Qqb r0.1]),(5,.cells 107 (Qqf u.2.2.2.2.1)),(6,.cells 3 [Qqb r0.2]),(7,.cells 25 (Qqf u.2.2.2.2.2.2)),(8,Qf),(9,.cells 26 [.fn 108 [(0,0),(8,0),(9,0)]])],[],12,50,[]⟩:St)) (fun (r1:Bool×Int)=>(⟨[(7,.v (.one (Qqc r1.1)))],[(0,.cells 153 [.yld 1]),(1,QJ),(2,.obj (.deferred (some []))),(3,.cells 25 (Qqf u.2.2.1)),(4,.cells 28 [Qqb u.2.2.2.1]),(5,.cells 107 (Qqf u.2.2.2.2.1)),(6,.cells 3 [Qqb r1.2]),(7,.cells 25 (Qqf u.2.2.2.2.2.2)),(8,Qf),(9,.cells 26 [.fn 108 [(0,0),(8,0),(9,0)]])],[],12,50,[]⟩:St))) r).tk,((Sum.elim (fun (r0:Int×Int)=>(⟨[(7,.v (.one (Qqc false)))],[(0,.cells 153 [.yld 1]),(1,J5),(2,.obj (.deferred (some []))),(3,.cells 25 (Qqf u.2.2.1)),(4,.cells 28 [Qqb r0.1]),(5,.cells 107 (Qqf u.2.2.2.2.1)),(6,.cells 3 [Qqb r0.2]),(7,.cells 25 (Qqf u.2.2.2.2.2.2)),(8,Qf),(9,.cells 26 [.fn 108 [(0,0),(8,0),(9,0)]])],[],12,50,[]⟩:St)) (fun (r1:Bool×Int)=>(⟨[(7,.v (.one (Qqc r1.1)))],[(0,.cells 153 [.yld 1]),(1,QJ),(2,.obj (.deferred (some []))),(3,.cells 25 (Qqf u.2.2.1)),(4,.cells 28 [Qqb u.2.2.2.1]),(5,.cells 107 (Qqf u.2.2.2.2.1)),(6,.cells 3 [Qqb r1.2]),(7,.cells 25 (Qqf u.2.2.2.2.2.2)),(8,Qf),(9,.cells 26 [.fn 108 [(0,0),(8,0),(9,0)]])],[],12,50,[]⟩:St))) r).nx⟩ :=
 XO (C:=fun u r=>CallE Tryz.prog 108 [.agg (Qqf u.1),.one (Qqb u.2.1),.one (.ptr 0 0),.one (.ptr 8 0),.one (.ptr 9 0)] ⟨ZF u.2.2.1 u.2.2.2.1 u.2.2.2.2.1 u.2.2.2.2.2.1 u.2.2.2.2.2.2,[],10⟩ ((Sum.elim (fun (r0:Int×Int)=>((.ret [.one (Qqc false)]):EK)) (fun (r1:Bool×Int)=>((.ret [.one (Qqc r1.1)]):EK))) r) ⟨((Sum.elim (fun (r0:Int×Int)=>(⟨[(7,.v (.one (Qqc false)))],[(0,.cells 153 [.yld 1]),(1,J5),(2,.obj (.deferred (some []))),(3,.cells 25 (Qqf u.2.2.1)),(4,.cells 28 [Qqb r0.1]),(5,.cells 107 (Qqf u.2.2.2.2.1)),(6,.cells 3 [Qqb r0.2]),(7,.cells 25 (Qqf u.2.2.2.2.2.2)),(8,Qf),(9,.cells 26 [.fn 108 [(0,0),(8,0),(9,0)]])],[],12,50,[]⟩:St)) (fun (r1:Bool×Int)=>(⟨[(7,.v (.one (Qqc r1.1)))],[(0,.cells 153 [.yld 1]),(1,QJ),(2,.obj (.deferred (some []))),(3,.cells 25 (Qqf u.2.2.1)),(4,.cells 28 [Qqb u.2.2.2.1]),(5,.cells 107 (Qqf u.2.2.2.2.1)),(6,.cells 3 [Qqb r1.2]),(7,.cells 25 (Qqf u.2.2.2.2.2.2)),(8,Qf),(9,.cells 26 [.fn 108 [(0,0),(8,0),(9,0)]])],[],12,50,[]⟩:St))) r).hp,((Sum.elim (fun (r0:Int×Int)=>(⟨[(7,.v (.one (Qqc false)))],[(0,.cells 153 [.yld 1]),(1,J5),(2,.obj (.deferred (some []))),(3,.cells 25 (Qqf u.2.2.1)),(4,.cells 28 [Qqb r0.1]),(5,.cells 107 (Qqf u.2.2.2.2.1)),(6,.cells 3 [Qqb r0.2]),(7,.cells 25 (Qqf u.2.2.2.2.2.2)),(8,Qf),(9,.cells 26 [.fn 108 [(0,0),(8,0),(9,0)]])],[],12,50,[]⟩:St)) (fun (r1:Bool×Int)=>(⟨[(7,.v (.one (Qqc r1.1)))],[(0,.cells 153 [.yld 1]),(1,QJ),(2,.obj (.deferred (some []))),(3,.cells 25 (Qqf u.2.2.1)),(4,.cells 28 [Qqb u.2.2.2.1]),(5,.cells 107 (Qqf u.2.2.2.2.1)),(6,.cells 3 [Qqb r1.2]),(7,.cells 25 (Qqf u.2.2.2.2.2.2)),(8,Qf),(9,.cells 26 [.fn 108 [(0,0),(8,0),(9,0)]])],[],12,50,[]⟩:St))) r).tk,((Sum.elim (fun (r0:Int×Int)=>(⟨[(7,.v (.one (Qqc false)))],[(0,.cells 153 [.yld 1]),(1,J5),(2,.obj (.deferred (some []))),(3,.cells 25 (Qqf u.2.2.1)),(4,.cells 28 [Qqb r0.1]),(5,.cells 107 (Qqf u.2.2.2.2.1)),(6,.cells 3 [Qqb r0.2]),(7,.cells 25 (Qqf u.2.2.2.2.2.2)),(8,Qf),(9,.cells 26 [.fn 108 [(0,0),(8,0),(9,0)]])],[],12,50,[]⟩:St)) (fun (r1:Bool×Int)=>(⟨[(7,.v (.one (Qqc r1.1)))],[(0,.cells 153 [.yld 1]),(1,QJ),(2,.obj (.deferred (some []))),(3,.cells 25 (Qqf u.2.2.1)),(4,.cells 28 [Qqb u.2.2.2.1]),(5,.cells 107 (Qqf u.2.2.2.2.1)),(6,.cells 3 [Qqb r1.2]),(7,.cells 25 (Qqf u.2.2.2.2.2.2)),(8,Qf),(9,.cells 26 [.fn 108 [(0,0),(8,0),(9,0)]])],[],12,50,[]⟩:St))) r).nx⟩) (fun rc H u r h=>m108f3s_ok rc (fun a0 a1 a2 a3 a4 a5 a6 r h=>H (a0,a1,a2,a3,a4,a5,a6) r h) u.1 u.2.1 u.2.2.1 u.2.2.2.1 u.2.2.2.2.1 u.2.2.2.2.2.1 u.2.2.2.2.2.2 r h) n u r h0
theorem Q6o (a0:Tm) (a1:Int) (a2:Tm) (a3:Int) (a4:Scp) (a5:Int) (a6:Tm) (r:(Int×Int)⊕(Bool×Int)) (h0:Q8u a0 a1 a2 a3 a4 a5 a6=some r):CallE Tryz.prog 108 [.agg (Qqf a0),.one (Qqb a1),.one (.ptr 0 0),.one (.ptr 8 0),.one (.ptr 9 0)] ⟨ZF a2 a3 a4 a5 a6,[],10⟩ ((Sum.elim (fun (r0:Int×Int)=>((.ret [.one (Qqc false)]):EK)) (fun (r1:Bool×Int)=>((.ret [.one (Qqc r1.1)]):EK))) r) ⟨((Sum.elim (fun (r0:Int×Int)=>(⟨[(7,.v (.one (Qqc false)))],[(0,.cells 153 [.yld 1]),(1,J5),(2,.obj (.deferred (some []))),(3,.cells 25 (Qqf a2)),(4,.cells 28 [Qqb r0.1]),(5,.cells 107 (Qqf a4)),(6,.cells 3 [Qqb r0.2]),(7,.cells 25 (Qqf a6)),(8,Qf),(9,.cells 26 [.fn 108 [(0,0),(8,0),(9,0)]])],[],12,50,[]⟩:St)) (fun (r1:Bool×Int)=>(⟨[(7,.v (.one (Qqc r1.1)))],[(0,.cells 153 [.yld 1]),(1,QJ),(2,.obj (.deferred (some []))),(3,.cells 25 (Qqf a2)),(4,.cells 28 [Qqb a3]),(5,.cells 107 (Qqf a4)),(6,.cells 3 [Qqb r1.2]),(7,.cells 25 (Qqf a6)),(8,Qf),(9,.cells 26 [.fn 108 [(0,0),(8,0),(9,0)]])],[],12,50,[]⟩:St))) r).hp,((Sum.elim (fun (r0:Int×Int)=>(⟨[(7,.v (.one (Qqc false)))],[(0,.cells 153 [.yld 1]),(1,J5),(2,.obj (.deferred (some []))),(3,.cells 25 (Qqf a2)),(4,.cells 28 [Qqb r0.1]),(5,.cells 107 (Qqf a4)),(6,.cells 3 [Qqb r0.2]),(7,.cells 25 (Qqf a6)),(8,Qf),(9,.cells 26 [.fn 108 [(0,0),(8,0),(9,0)]])],[],12,50,[]⟩:St)) (fun (r1:Bool×Int)=>(⟨[(7,.v (.one (Qqc r1.1)))],[(0,.cells 153 [.yld 1]),(1,QJ),(2,.obj (.deferred (some []))),(3,.cells 25 (Qqf a2)),(4,.cells 28 [Qqb a3]),(5,.cells 107 (Qqf a4)),(6,.cells 3 [Qqb r1.2]),(7,.cells 25 (Qqf a6)),(8,Qf),(9,.cells 26 [.fn 108 [(0,0),(8,0),(9,0)]])],[],12,50,[]⟩:St))) r).tk,((Sum.elim (fun (r0:Int×Int)=>(⟨[(7,.v (.one (Qqc false)))],[(0,.cells 153 [.yld 1]),(1,J5),(2,.obj (.deferred (some []))),(3,.cells 25 (Qqf a2)),(4,.cells 28 [Qqb r0.1]),(5,.cells 107 (Qqf a4)),(6,.cells 3 [Qqb r0.2]),(7,.cells 25 (Qqf a6)),(8,Qf),(9,.cells 26 [.fn 108 [(0,0),(8,0),(9,0)]])],[],12,50,[]⟩:St)) (fun (r1:Bool×Int)=>(⟨[(7,.v (.one (Qqc r1.1)))],[(0,.cells 153 [.yld 1]),(1,QJ),(2,.obj (.deferred (some []))),(3,.cells 25 (Qqf a2)),(4,.cells 28 [Qqb a3]),(5,.cells 107 (Qqf a4)),(6,.cells 3 [Qqb r1.2]),(7,.cells 25 (Qqf a6)),(8,Qf),(9,.cells 26 [.fn 108 [(0,0),(8,0),(9,0)]])],[],12,50,[]⟩:St))) r).nx⟩:=m108f3_all Qd (a0,a1,a2,a3,a4,a5,a6) r h0
abbrev Q8n (p0_:Int) (p1_:Int) (p2_:Int) (p3_:Int):HB :=
 .cells 107 [Qqb (max p0_ 0),Qqb (max p1_ 0),Qqb (max p2_ 0),Qqb (max p3_ 0)]
abbrev m27_h1 (p0_:Tm) (p1_:Int) (p2_:Int) (p3_:Int) (p4_:Int):List (Nat×HB) :=
 [(0,.cells 25 (Qqf p0_)),(1,.cells 28 [Qqb 0]),(2,Q8n p1_ p2_ p3_ p4_),(3,.cells 3 [Qqb 0])]
abbrev Qd7 (p0_:Tm) (p1_:Int) (p2_:Int) (p3_:Int) (p4_:Int):List (Nat×HB) :=
 [(0,.cells 25 (Qqf p0_)),(1,.cells 28 [Qqb 0]),(2,Q8n p1_ p2_ p3_ p4_),(3,.cells 3 [Qqb 0]),(4,.cells 25 (Qqf p0_))]
abbrev Qd6 (p0_:Int) (p1_:Int) (p2_:Int) (p3_:Int):HB :=
 .cells 107 [Qqb ((⟨(max p0_ 0),(max p1_ 0),(max p2_ 0),(max p3_ 0)⟩:Scp).vars),Qqb ((⟨(max p0_ 0),(max p1_ 0),(max p2_ 0),(max p3_ 0)⟩:Scp).params),Qqb ((⟨(max p0_ 0),(max p1_ 0),(max p2_ 0),(max p3_ 0)⟩:Scp).metas),Qqb ((⟨(max p0_ 0),(max p1_ 0),(max p2_ 0),(max p3_ 0)⟩:Scp).levels)]
abbrev Q8m :HB :=
 .loop .ready none [(5,.v (.one (.ptr 0 0))),(10,.v (.one (.ptr 1 0))),(11,.v (.one (.ptr 2 0))),(12,.v (.one (.ptr 3 0))),(26,.v (.one (.fn 106 [(4,0)])))] 45 #[27,28] Ze Yq 5
abbrev XY (p0_:Tm) (p1_:Int) (p2_:Int) (p3_:Int) (p4_:Int) (p5_:Int):List (Nat×HB) :=
 [(0,.cells 25 (Qqf p0_)),(1,.cells 28 [Qqb 0]),(2,Qd6 p1_ p2_ p3_ p4_),(3,.cells 3 [Qqb p5_]),(4,.cells 25 (Qqf p0_)),(5,.obj (.deferred (some []))),(6,Q8m)]
abbrev m27_h6 :HB :=
 .loop .done (some .ret) [(5,.v (.one (.ptr 0 0))),(10,.v (.one (.ptr 1 0))),(11,.v (.one (.ptr 2 0))),(12,.v (.one (.ptr 3 0))),(26,.v (.one (.fn 106 [(4,0)])))] 45 #[27,28] Ze Yq 5
abbrev Xa (p0_:Tm) (p1_:Int×Int) (p2_:Int) (p3_:Int) (p4_:Int) (p5_:Int):List (Nat×HB) :=
 [(0,.cells 25 (Qqf p0_)),(1,.cells 28 [Qqb p1_.1]),(2,Qd6 p2_ p3_ p4_ p5_),(3,.cells 3 [Qqb p1_.2]),(4,.cells 25 (Qqf p0_)),(5,.obj (.deferred (some []))),(6,m27_h6)]
abbrev m27_h8 (p0_:Tm) (p1_:Int) (p2_:Int) (p3_:Int) (p4_:Int):List (Nat×HB) :=
 [(0,.cells 25 (Qqf p0_)),(1,.cells 28 [Qqb 0]),(2,Q8n p1_ p2_ p3_ p4_),(3,.cells 3 [Qqb 0]),(4,.cells 25 (Qqf p0_)),(5,.obj (.deferred (some []))),(6,Q8m),(7,.cells 153 [.yld 6])]
abbrev Qd5 :HB :=
 .cells 156 [Qqc true,Qqc false,Qqb 0,Qqb 0,Qqb (-1),Qqc false,Qqc false,Qqb 0,Qqb 0,Qqb (-1),Qqc false,Qqc false,Qqb 1,Qqb 0,Qqb (-1),Qqc false,Qqc true,Qqb (-1),Qqb 0,Qqb (-1),Qqc false,Qqc false,Qqb 0,Qqb 2,Qqb (-1),Qqc false,Qqc false,Qqb 0,Qqb 2,Qqb 1,Qqc false,Qqc false,Qqb 0,Qqb 2,Qqb 1,Qqc false,Qqc false,Qqb 0,Qqb 2,Qqb 1,Qqc false,Qqc false,Qqb 0,Qqb 3,Qqb (-1),Qqc false,Qqc false,Qqb 0,Qqb 1,Qqb (-1),Qqc false,Qqc false,Qqb 0,Qqb 1,Qqb (-1),Qqc false,Qqc false,Qqb 0,Qqb 3,Qqb 2,Qqc true,Qqc false,Qqb 0,Qqb 0,Qqb (-1)]
abbrev Qf7 (p0_:Tm) (p1_:Int) (p2_:Int) (p3_:Int) (p4_:Int):List (Nat×HB) :=
 [(0,.cells 25 (Qqf p0_)),(1,.cells 28 [Qqb 0]),(2,Q8n p1_ p2_ p3_ p4_),(3,.cells 3 [Qqb 0]),(4,.cells 25 (Qqf p0_)),(5,.obj (.deferred (some []))),(6,Q8m),(7,.cells 153 [.yld 6]),(8,Qd5)]
abbrev m27_h11 (p0_:Tm) (p1_:Int) (p2_:Int) (p3_:Int) (p4_:Int) (p5_:Bool×Int):List (Nat×HB) :=
 [(0,.cells 25 (Qqf p0_)),(1,.cells 28 [Qqb 0]),(2,Qd6 p1_ p2_ p3_ p4_),(3,.cells 3 [Qqb p5_.2]),(4,.cells 25 (Qqf p0_)),(5,.obj (.deferred (some []))),(6,Q8m)]
def Qky (a0:Tm) (a1:Int) (a2:Int) (a3:Int) (a4:Int):Option Int :=
 Option.bind (some ()) (fun (y1:Unit)=>Option.bind (Option.bind (some ()) (fun (y7:Unit)=>Option.bind (Q8u a0 0 a0 0 (⟨(max a1 0),(max a2 0),(max a3 0),(max a4 0)⟩:Scp) 0 a0) (Sum.elim (fun (x10:Int×Int)=>some (.inr (x10.1,x10.2))) (fun (x11:Bool×Int)=>some (.inl x11.2))))) (Sum.elim (fun (y3:Int)=>cond (decide (4096 < y3))
   (some 5)
   (Option.bind (Qok a0) fun (x13:Int) =>
 cond (decide (200 < x13))
   (some 7)
   (some 0))) (fun (y4:Int×Int)=>some y4.1)))
theorem m27_ok (a0:Tm) (a1:Int) (a2:Int) (a3:Int) (a4:Int) (r:Int) (h0:Qky a0 a1 a2 a3 a4=some r):Fun Tryz.prog 27 [.agg (Qqf a0),.one (Qqb a1),.one (Qqb a2),.one (Qqb a3),.one (Qqb a4)] (Qh [.one (Qqb r)]):=by
 unfold Qky at h0
 refine Kl 9 45 Tryz.func27 Z en_27 Z (Qpu Z) (fun S w=>?_)
 simp only [J4]
 refine Q4<|Q0<|Qk Z Z (Qpu Z) (JZ Z)<|Qk Z Z (Qpu Z) (QR z_28 Z)<|Q3<|Q5<|Q4<|Q0<|Qpm Z Z Z<|Qpl Z Z Z (WO Z Z)<|Qpm Z Z Z<|Qpl Z Z Z (WO Z Z)<|Qpm Z Z Z<|Qpl Z Z Z (WO Z Z) ?_
 refine Qpm Z Z Z<|Qpl Z Z Z (WO Z Z)<|Qpl Z Z Z (Q0o bd_107 Z (.cons Z (.cons Z (.cons Z (.cons Z .nil)))) Z)<|Qk Z Z (Qpu Z) (QR z_107 Z)<|QQ Z Z (Qi Qkb Z Z Z Z (Qpu Z) Z)<|Q3<|Q5<|Q4<|Q0<|Qk Z Z (Qpu Z) (QR z_3 Z)<|QQ Z Z (Qi JY Z Z Z Z (Qpu Z) Z)<|Q3<|Q5<|Q4 ?_
 refine Q4<|Q0<|Qpl Z Z Z (ZM (a0:Tm) Dw Z Z) ?_
 refine Qv h0 (fun y1 h1 h0=>?_)
 have hc2:CallM Tryz.prog 58 [.agg (Qqf a0)] ⟨m27_h1 a0 a1 a2 a3 a4,[],4⟩ (Qh [.one (.fn 106 [(4,0)])]) ⟨Qd7 a0 a1 a2 a3 a4,[],5⟩:=by
  refine Qp ⟨[(2,.v (.one (.fn 106 [(4,0)])))],Qd7 a0 a1 a2 a3 a4,[],5,4,[]⟩ Z Z en_58 (Qpu Z) Z (Jj Z .nil) (fun w0 M V0 Q hv1 hQ1=>?_)
  simp only [J4]
  refine Q4<|Q0<|Qk Z Z (Qpu Z) (JZ Z)<|Qpn Z Z Z<|Q3<|Q5<|Q4<|Q0<|Qpl Z Z Z (Xu Z)<|Qpn Z Z Z<|Q3<|Q5<|QT ?_
  have e:=Qpj h1;subst e
  exact hQ1 _ _ _ (.inr Z) Z (Qpi (Ca hv1 (Qpu Z)) Z Z Z Z Z)
 refine Qk Z Z (Qpu Z) (KZ Z Z Z hc2 Z (hA Z) Qpv)<|Q3<|Q5<|QF<|Qgv (st':=⟨[(5,.v (.one (.ptr 0 0))),(10,.v (.one (.ptr 1 0))),(11,.v (.one (.ptr 2 0))),(12,.v (.one (.ptr 3 0))),(26,.v (.one (.fn 106 [(4,0)])))],Qd7 a0 a1 a2 a3 a4,[],5,45,[]⟩) (Qpi (Cp _) Z Z Z Z Z) ?_
 refine Qv h0 (fun y6 h1 h0=>?_)
 have hc5:CallM Tryz.prog 106 [.one (.yld 6),.one (.ptr 4 0)] ⟨[(6,.loop .ready none [(5,.v (.one (.ptr 0 0))),(10,.v (.one (.ptr 1 0))),(11,.v (.one (.ptr 2 0))),(12,.v (.one (.ptr 3 0))),(26,.v (.one (.fn 106 [(4,0)])))] 45 #[27,28] Ze Yq 5),(5,.obj (.deferred (some []))),(0,.cells 25 (Qqf a0)),(1,.cells 28 [Qqb 0]),(2,.cells 107 [Qqb (max a1 0),Qqb (max a2 0),Qqb (max a3 0),Qqb (max a4 0)]),(3,.cells 3 [Qqb 0]),(4,.cells 25 (Qqf a0))],[],7⟩ (Qh []) ⟨(((Sum.elim (fun (y3:Int)=>(⟨[],XY a0 a1 a2 a3 a4 y3,[],13,10,[]⟩:St)) (fun (y4:Int×Int)=>(⟨[],Xa a0 y4 a1 a2 a3 a4,[],13,10,[]⟩:St)))) y6).hp,(((Sum.elim (fun (y3:Int)=>(⟨[],XY a0 a1 a2 a3 a4 y3,[],13,10,[]⟩:St)) (fun (y4:Int×Int)=>(⟨[],Xa a0 y4 a1 a2 a3 a4,[],13,10,[]⟩:St)))) y6).tk,(((Sum.elim (fun (y3:Int)=>(⟨[],XY a0 a1 a2 a3 a4 y3,[],13,10,[]⟩:St)) (fun (y4:Int×Int)=>(⟨[],Xa a0 y4 a1 a2 a3 a4,[],13,10,[]⟩:St)))) y6).nx⟩:=by
  refine CallM.of_bodyS y6 ((Sum.elim (fun (y3:Int)=>(⟨[],XY a0 a1 a2 a3 a4 y3,[],13,10,[]⟩:St)) (fun (y4:Int×Int)=>(⟨[],Xa a0 y4 a1 a2 a3 a4,[],13,10,[]⟩:St)))) rfl rfl en_106 (Qpu rfl) (fun z_=>by cases z_ <;> rfl) (fun z_=>.nil) (fun w0 M V0 Q hv1 hQ1=>?_)
  simp only [J4]
  refine Q4<|Q0<|Qk Z Z (Qpu Z) (JZ Z)<|Q3<|Q5<|Q4<|Q0 ?_
  refine Qv h1 (fun y7 h2 h1=>?_)
  have hc8:CallM Tryz.prog 107 [] ⟨m27_h8 a0 a1 a2 a3 a4,[],8⟩ (Qh [.agg [Qqc true,Qqc false,Qqb 0,Qqb 0,Qqb (-1),Qqc false,Qqc false,Qqb 0,Qqb 0,Qqb (-1),Qqc false,Qqc false,Qqb 1,Qqb 0,Qqb (-1),Qqc false,Qqc true,Qqb (-1),Qqb 0,Qqb (-1),Qqc false,Qqc false,Qqb 0,Qqb 2,Qqb (-1),Qqc false,Qqc false,Qqb 0,Qqb 2,Qqb 1,Qqc false,Qqc false,Qqb 0,Qqb 2,Qqb 1,Qqc false,Qqc false,Qqb 0,Qqb 2,Qqb 1,Qqc false,Qqc false,Qqb 0,Qqb 3,Qqb (-1),Qqc false,Qqc false,Qqb 0,Qqb 1,Qqb (-1),Qqc false,Qqc false,Qqb 0,Qqb 1,Qqb (-1),Qqc false,Qqc false,Qqb 0,Qqb 3,Qqb 2,Qqc true,Qqc false,Qqb 0,Qqb 0,Qqb (-1)]]) ⟨Qf7 a0 a1 a2 a3 a4,[],9⟩:=by
   refine Qp ⟨[(0,.v (.one (.ptr 8 0)))],Qf7 a0 a1 a2 a3 a4,[],9,15,[]⟩ Z Z Qjs (Qpu Z) Z (Zr Q52 Z Z Z Z .nil) (fun w0 M V0 Q hv2 hQ2=>?_)
   simp only [J4]
   refine Q4<|Q0<|Qk Z Z (Qpu Z) (QR Qhg Z)<|Q3<|Q5<|Q4<|Q0<|Qpl Z Z Z (QK Jo Z Z Z Z)<|Qpl Z Z Z (Kz Jo Z Z Z)<|Qpl Z Z Z (QK Jo Z Z Z Z)<|Qpl Z Z Z (Q7s Jo Z Z Z Z Z)<|Qpl Z Z Z (QK Jo Z Z Z Z)<|Qpl Z Z Z (QK Jo Z Z Z Z)<|Qpl Z Z Z (QK Jo Z Z Z Z) ?_
   refine Qpl Z Z Z (QK Jo Z Z Z Z)<|Qpl Z Z Z (QK Jo Z Z Z Z)<|Qpl Z Z Z (QK Jo Z Z Z Z)<|Qpl Z Z Z (QK Jo Z Z Z Z)<|Qpl Z Z Z (QK Jo Z Z Z Z)<|Qpl Z Z Z (QK Jo Z Z Z Z)<|Qpl Z Z Z (Q0o Qk2 Z (.cons Z (.cons Z (.cons Z (.cons Z (.cons Z (.cons Z (.cons Z (.cons Z (.cons Z (.cons Z (.cons Z (.cons Z (.cons Z .nil))))))))))))) Z)<|QQ Z Z (Gu Q52 Z Z Z Z Z Z)<|Q3<|Q5<|QT ?_
   have e:=Qpj h2;subst e
   exact hQ2 _ _ _ (.inr Z) Z (Qpi (Ca hv2 (Qpu Z)) Z Z Z Z Z)
  refine Qk Z Z (Qpu Z) (KZ Z Z Z hc8 Z (hA Z) Qpv)<|Qk Z Z (Qpu Z) (QR Qhg Z)<|QQ Z Z (Gu Q52 Z Z Z Z Z Z)<|Q3<|Q5<|Q4<|Q0<|Qk Z Z (Qpu Z) (QR z_26 Z)<|Q3<|Q5<|Q4<|Q0<|Qpl Z Z Z (RO.makeFunc3 Z Z Z)<|QQ Z Z (Qi Qk9 Z Z Z Z (Qpu Z) Z) ?_
  refine Q3<|Q5<|Q0<|Qpl Z Z Z (Q6 Qk9 Z Z Z)<|Qpl Z Z Z (ZM (a0:Tm) Dw Z Z) ?_
  refine Qv h1 (fun x9 hx9 h1=>?_)
  refine Qn8 id hx9 h1 (fun x10 hx10 h1=>?_) (fun x11 hx11 h1=>?_)
  refine Qk Z Z (Qpu Z) (Qn (hp1':=[(7,.cells 153 [.yld 6]),(6,.loop .done (some .ret) [(5,.v (.one (.ptr 0 0))),(10,.v (.one (.ptr 1 0))),(11,.v (.one (.ptr 2 0))),(12,.v (.one (.ptr 3 0))),(26,.v (.one (.fn 106 [(4,0)])))] 45 #[27,28] Ze Yq 5),(5,.obj (.deferred (some []))),(0,.cells 25 (Qqf a0)),(1,.cells 28 [Qqb x10.1]),(2,.cells 107 [Qqb ((⟨(max a1 0),(max a2 0),(max a3 0),(max a4 0)⟩:Scp).vars),Qqb ((⟨(max a1 0),(max a2 0),(max a3 0),(max a4 0)⟩:Scp).params),Qqb ((⟨(max a1 0),(max a2 0),(max a3 0),(max a4 0)⟩:Scp).metas),Qqb ((⟨(max a1 0),(max a2 0),(max a3 0),(max a4 0)⟩:Scp).levels)]),(3,.cells 3 [Qqb x10.2]),(4,.cells 25 (Qqf a0)),(9,.cells 156 [Qqc true,Qqc false,Qqb 0,Qqb 0,Qqb (-1),Qqc false,Qqc false,Qqb 0,Qqb 0,Qqb (-1),Qqc false,Qqc false,Qqb 1,Qqb 0,Qqb (-1),Qqc false,Qqc true,Qqb (-1),Qqb 0,Qqb (-1),Qqc false,Qqc false,Qqb 0,Qqb 2,Qqb (-1),Qqc false,Qqc false,Qqb 0,Qqb 2,Qqb 1,Qqc false,Qqc false,Qqb 0,Qqb 2,Qqb 1,Qqc false,Qqc false,Qqb 0,Qqb 2,Qqb 1,Qqc false,Qqc false,Qqb 0,Qqb 3,Qqb (-1),Qqc false,Qqc false,Qqb 0,Qqb 1,Qqb (-1),Qqc false,Qqc false,Qqb 0,Qqb 1,Qqb (-1),Qqc false,Qqc false,Qqb 0,Qqb 3,Qqb 2,Qqc true,Qqc false,Qqb 0,Qqb 0,Qqb (-1)]),(10,.cells 26 [.fn 108 [(7,0),(9,0),(10,0)]])]) (tk1':=[]) (hpF:=[(8,Qd5)]) (tkF:=[]) (res2:=Qh [.one (Qqc false)]) (nx2:=13) [7,6,5,0,1,2,3,4,9,10] Z Z (CallE.m (Q6o a0 0 a0 0 (⟨(max a1 0),(max a2 0),(max a3 0),(max a4 0)⟩:Scp) 0 a0 (.inl x10) hx10)) Z Z (Qpq Z Z (Qpq Z Z (Qpq Z Z (Qpq Z Z (Qpq Z Z (Qpq Z Z (Qpq Z Z (Qpq Z Z (Qpq Z Z (Qpq Z Z Qpo)))))))))) Z Z (Qq6 Z (Qq6 Z (Qq6 Z (Qq6 Z (Qq6 Z (Qq6 Z (Qq6 Z (Qq6 Z (Qq6 Z (Qq6 Z Qq5)))))))))) Qq0 (hA Z) Qpv Z Z Z Z Z (Qqm Z) Z Z Z Z)<|Q3 ?_
  have e:=Qpj h1;subst e
  exact hQ1 _ _ _ (.inl Z) Z (show StLe _ _ ⟨[],Xa a0 x10 a1 a2 a3 a4,[],13,10,[]⟩ from (Qpi (Ca hv1 (Qpu Z)) Z Z Z Z Z))
  refine Qk Z Z (Qpu Z) (Qn (hp1':=[(7,.cells 153 [.yld 6]),(6,.loop .ready none [(5,.v (.one (.ptr 0 0))),(10,.v (.one (.ptr 1 0))),(11,.v (.one (.ptr 2 0))),(12,.v (.one (.ptr 3 0))),(26,.v (.one (.fn 106 [(4,0)])))] 45 #[27,28] Ze Yq 5),(5,.obj (.deferred (some []))),(0,.cells 25 (Qqf a0)),(1,.cells 28 [Qqb 0]),(2,.cells 107 [Qqb ((⟨(max a1 0),(max a2 0),(max a3 0),(max a4 0)⟩:Scp).vars),Qqb ((⟨(max a1 0),(max a2 0),(max a3 0),(max a4 0)⟩:Scp).params),Qqb ((⟨(max a1 0),(max a2 0),(max a3 0),(max a4 0)⟩:Scp).metas),Qqb ((⟨(max a1 0),(max a2 0),(max a3 0),(max a4 0)⟩:Scp).levels)]),(3,.cells 3 [Qqb x11.2]),(4,.cells 25 (Qqf a0)),(9,.cells 156 [Qqc true,Qqc false,Qqb 0,Qqb 0,Qqb (-1),Qqc false,Qqc false,Qqb 0,Qqb 0,Qqb (-1),Qqc false,Qqc false,Qqb 1,Qqb 0,Qqb (-1),Qqc false,Qqc true,Qqb (-1),Qqb 0,Qqb (-1),Qqc false,Qqc false,Qqb 0,Qqb 2,Qqb (-1),Qqc false,Qqc false,Qqb 0,Qqb 2,Qqb 1,Qqc false,Qqc false,Qqb 0,Qqb 2,Qqb 1,Qqc false,Qqc false,Qqb 0,Qqb 2,Qqb 1,Qqc false,Qqc false,Qqb 0,Qqb 3,Qqb (-1),Qqc false,Qqc false,Qqb 0,Qqb 1,Qqb (-1),Qqc false,Qqc false,Qqb 0,Qqb 1,Qqb (-1),Qqc false,Qqc false,Qqb 0,Qqb 3,Qqb 2,Qqc true,Qqc false,Qqb 0,Qqb 0,Qqb (-1)]),(10,.cells 26 [.fn 108 [(7,0),(9,0),(10,0)]])]) (tk1':=[]) (hpF:=[(8,Qd5)]) (tkF:=[]) (res2:=Qh [.one (Qqc x11.1)]) (nx2:=13) [7,6,5,0,1,2,3,4,9,10] Z Z (CallE.m (Q6o a0 0 a0 0 (⟨(max a1 0),(max a2 0),(max a3 0),(max a4 0)⟩:Scp) 0 a0 (.inr x11) hx11)) Z Z (Qpq Z Z (Qpq Z Z (Qpq Z Z (Qpq Z Z (Qpq Z Z (Qpq Z Z (Qpq Z Z (Qpq Z Z (Qpq Z Z (Qpq Z Z Qpo)))))))))) Z Z (Qq6 Z (Qq6 Z (Qq6 Z (Qq6 Z (Qq6 Z (Qq6 Z (Qq6 Z (Qq6 Z (Qq6 Z (Qq6 Z Qq5)))))))))) Qq0 (hA Z) Qpv Z Z Z Z Z (Qqm Z) Z Z Z Z)<|Q3 ?_
  have e:=Qpj h1;subst e
  exact hQ1 _ _ _ (.inl Z) Z (show StLe _ _ ⟨[],m27_h11 a0 a1 a2 a3 a4 x11,[],13,10,[]⟩ from (Qpi (Ca hv1 (Qpu Z)) Z Z Z Z Z))
 refine Qn7 (C:=fun q_=>CallM Tryz.prog 106 [.one (.yld 6),.one (.ptr 4 0)] ⟨[(6,.loop .ready none [(5,.v (.one (.ptr 0 0))),(10,.v (.one (.ptr 1 0))),(11,.v (.one (.ptr 2 0))),(12,.v (.one (.ptr 3 0))),(26,.v (.one (.fn 106 [(4,0)])))] 45 #[27,28] Ze Yq 5),(5,.obj (.deferred (some []))),(0,.cells 25 (Qqf a0)),(1,.cells 28 [Qqb 0]),(2,.cells 107 [Qqb (max a1 0),Qqb (max a2 0),Qqb (max a3 0),Qqb (max a4 0)]),(3,.cells 3 [Qqb 0]),(4,.cells 25 (Qqf a0))],[],7⟩ (Qh []) ⟨(((Sum.elim (fun (y3:Int)=>(⟨[],XY a0 a1 a2 a3 a4 y3,[],13,10,[]⟩:St)) (fun (y4:Int×Int)=>(⟨[],Xa a0 y4 a1 a2 a3 a4,[],13,10,[]⟩:St)))) q_).hp,(((Sum.elim (fun (y3:Int)=>(⟨[],XY a0 a1 a2 a3 a4 y3,[],13,10,[]⟩:St)) (fun (y4:Int×Int)=>(⟨[],Xa a0 y4 a1 a2 a3 a4,[],13,10,[]⟩:St)))) q_).tk,(((Sum.elim (fun (y3:Int)=>(⟨[],XY a0 a1 a2 a3 a4 y3,[],13,10,[]⟩:St)) (fun (y4:Int×Int)=>(⟨[],Xa a0 y4 a1 a2 a3 a4,[],13,10,[]⟩:St)))) q_).nx⟩) hc5 h0 (fun y3 hc5 h0=>?_) (fun y4 hc5 h0=>?_)
 replace hc5:CallM Tryz.prog 106 [.one (.yld 6),.one (.ptr 4 0)] ⟨[(6,.loop .ready none [(5,.v (.one (.ptr 0 0))),(10,.v (.one (.ptr 1 0))),(11,.v (.one (.ptr 2 0))),(12,.v (.one (.ptr 3 0))),(26,.v (.one (.fn 106 [(4,0)])))] 45 #[27,28] Ze Yq 5),(5,.obj (.deferred (some []))),(0,.cells 25 (Qqf a0)),(1,.cells 28 [Qqb 0]),(2,.cells 107 [Qqb (max a1 0),Qqb (max a2 0),Qqb (max a3 0),Qqb (max a4 0)]),(3,.cells 3 [Qqb 0]),(4,.cells 25 (Qqf a0))],[],7⟩ (Qh []) ⟨XY a0 a1 a2 a3 a4 y3,[],13⟩:=hc5
 refine Qgw (WZ (e:=.normal) rfl hc5 rfl rfl (by intro h;cases h) rfl) rfl ?_
 refine Jh<|Q5<|Q4<|QF<|Q4<|Q0<|Qpl Z Z Z (Q6 JY Z Z Z)<|Qpl Z Z Z (Qb Z Z Z)<|Qpn Z Z Z<|Q3<|Q5 ?_
 refine Qy (b:=(decide (4096 < y3))) Z (fun c12=>?_) (fun c12=>?_)
 replace h0:=QD c12 h0
 refine Q4<|Q0<|QQ Z Z (Qi GS Z Z Z Z (Qpu Z) Z)<|Q3<|Q5<|QT ?_
 have e:=Qpj h0;subst e
 exact Zq (fun _ _ h=>h) Z (Ws GS Z Z Z .nil) (.cons (.one (.d _)) .nil)
 replace h0:=QE c12 h0
 refine Q4<|Q0<|Qpl Z Z Z (ZM (a0:Tm) Dw Z Z) ?_
 refine Qv h0 (fun x13 hx13 h0=>?_)
 refine Qk Z Z (Qpu Z) (Y8 (m60_ok a0 x13 hx13) Z (.cons (.agg (.cons (.d _) (.cons (.d _) (.cons (.d _) (.cons (.d _) (.cons (.d _) .nil)))))) .nil))<|Qpl Z Z Z (Qb Z Z Z)<|Qpn Z Z Z<|Q3<|Q5 ?_
 refine Qy (b:=(decide (200 < x13))) Z (fun c14=>?_) (fun c14=>?_)
 replace h0:=QD c14 h0
 refine Q4<|Q0<|QQ Z Z (Qi GS Z Z Z Z (Qpu Z) Z)<|Q3<|Q5<|QT ?_
 have e:=Qpj h0;subst e
 exact Zq (fun _ _ h=>h) Z (Ws GS Z Z Z .nil) (.cons (.one (.d _)) .nil)
 replace h0:=QE c14 h0
 refine QX<|Jh<|Q5<|Q4<|Q0<|QQ Z Z (Qi GS Z Z Z Z (Qpu Z) Z)<|Q3<|Q5<|QT ?_
 have e:=Qpj h0;subst e
 exact Zq (fun _ _ h=>h) Z (Ws GS Z Z Z .nil) (.cons (.one (.d _)) .nil)
 replace hc5:CallM Tryz.prog 106 [.one (.yld 6),.one (.ptr 4 0)] ⟨[(6,.loop .ready none [(5,.v (.one (.ptr 0 0))),(10,.v (.one (.ptr 1 0))),(11,.v (.one (.ptr 2 0))),(12,.v (.one (.ptr 3 0))),(26,.v (.one (.fn 106 [(4,0)])))] 45 #[27,28] Ze Yq 5),(5,.obj (.deferred (some []))),(0,.cells 25 (Qqf a0)),(1,.cells 28 [Qqb 0]),(2,.cells 107 [Qqb (max a1 0),Qqb (max a2 0),Qqb (max a3 0),Qqb (max a4 0)]),(3,.cells 3 [Qqb 0]),(4,.cells 25 (Qqf a0))],[],7⟩ (Qh []) ⟨Xa a0 y4 a1 a2 a3 a4,[],13⟩:=hc5
 refine Qgw (WZ (e:=.ret) rfl hc5 rfl rfl (by intro h;cases h) rfl) rfl ?_
 have e:=Qpj h0;subst e
 exact Zq (fun _ _ h=>h) Z (Ws GS Z Z Z .nil) (.cons (.one (.d _)) .nil)
def k136:KF UV:=⟨[.stc .t82],[.bool],fun v=>Q5h v⟩
theorem Qfu:Yy DV W0 Tryz.prog 136 k136:=⟨rfl,fun v r h=>DH (Eq.mp (show _=Fun Tryz.prog 136 (QN DV k136.args v) (Qh (QN DV k136.res r)) from by kernel_rfl) (m136_ok v r h))⟩
def k110:KF UV:=⟨[.str],[.bool],fun v=>Q04 v⟩
theorem k110_ok:Yy DV W0 Tryz.prog 110 k110:=⟨rfl,fun v r h=>DH (Eq.mp (show _=Fun Tryz.prog 110 (QN DV k110.args v) (Qh (QN DV k110.res r)) from by kernel_rfl) (m110_ok v r h))⟩
def k27:KF UV:=⟨[.stc .t25,.int .i64,.int .i64,.int .i64,.int .i64],[.int .i64],fun v=>Qky (v.1) (v.2.1) (v.2.2.1) (v.2.2.2.1) (v.2.2.2.2)⟩
theorem Qj8:Yy DV W0 Tryz.prog 27 k27:=⟨rfl,fun v r h=>DH (Eq.mp (show _=Fun Tryz.prog 27 (QN DV k27.args v) (Qh (QN DV k27.res r)) from by kernel_rfl) (m27_ok (v.1) (v.2.1) (v.2.2.1) (v.2.2.2.1) (v.2.2.2.2) r h))⟩
end
end Go.Proofs.YtjcfppnjamjjhaaGreatDoor
namespace Go.Proofs
noncomputable section
open Go.Shelf
def GU:Go.Shelf.Ren:=⟨fun | 7=>182 | 10=>209 | n=>n,fun | 23=>210 | 26=>3 | 3=>3 | 28=>221 | 0=>0 | 27=>220 | 33=>233 | 4=>4 | n=>n,fun | n=>n⟩
theorem Tryz.keys182:Go.Proofs.SlLaysZI.n7 Tryz.prog GU:={
 mixed:=by kernel_rfl
 f7:=⟨Tryz.f182.name,by decide,Tryz.func182.trans (congrArg some (by kernel_rfl))⟩
 f10:=⟨Tryz.f209.name,by decide,Tryz.func209.trans (congrArg some (by kernel_rfl))⟩
 t0:=Tryz.underlying0
 a0:=Tryz.isAgg0
 z0:=Tryz.sizeOf0
 v0:=Tryz.zeroValue0
 t4:=Tryz.underlying4
 a4:=Tryz.isAgg4
 z4:=Tryz.sizeOf4
 v4:=Tryz.zeroValue4
 t23:=Tryz.underlying210
 a23:=Tryz.isAgg210
 z23:=Tryz.sizeOf210
 v23:=Tryz.zeroValue210
 t26:=Tryz.underlying3
 a26:=Tryz.isAgg3
 z26:=Tryz.sizeOf3
 v26:=Tryz.zeroValue3
 t27:=Tryz.underlying220
 a27:=Tryz.isAgg220
 z27:=Tryz.sizeOf220
 v27:=Tryz.zeroValue220
 t28:=Tryz.underlying221
 a28:=Tryz.isAgg221
 z28:=Tryz.sizeOf221
 v28:=Tryz.zeroValue221
 t33:=Tryz.underlying233
 a33:=Tryz.isAgg233
 z33:=Tryz.sizeOf233
 v33:=Tryz.zeroValue233 }
def KY:Go.Shelf.Ren:=⟨fun | 6=>181 | 8=>207 | 9=>208 | 11=>221 | 13=>223 | 12=>222 | 23=>238 | 24=>191 | 14=>229 | 15=>230 | 16=>231 | 17=>232 | 18=>233 | 19=>234 | 20=>235 | 21=>236 | 22=>237 | 25=>239 | 26=>240 | 27=>241 | 28=>242 | 29=>243 | 30=>244 | 31=>245 | n=>n,fun | 26=>3 | 28=>221 | 24=>218 | 0=>0 | 3=>3 | 37=>234 | 48=>231 | 50=>195 | 4=>4 | 40=>274 | 39=>273 | 45=>167 | 5=>5 | 9=>9 | 51=>280 | 55=>284 | 57=>286 | 58=>287 | 33=>233 | n=>n,fun | n=>n⟩
theorem Tryz.sorted181:Go.Proofs.SlLaysZI.n6 Tryz.prog KY:={
 mixed:=by kernel_rfl
 f6:=⟨Tryz.f181.name,by decide,Tryz.func181.trans (congrArg some (by kernel_rfl))⟩
 f8:=⟨Tryz.f207.name,by decide,Tryz.func207.trans (congrArg some (by kernel_rfl))⟩
 f11:=⟨Tryz.f221.name,by decide,Tryz.func221.trans (congrArg some (by kernel_rfl))⟩
 t0:=Tryz.underlying0
 a0:=Tryz.isAgg0
 z0:=Tryz.sizeOf0
 v0:=Tryz.zeroValue0
 t24:=Tryz.underlying218
 a24:=Tryz.isAgg218
 z24:=Tryz.sizeOf218
 v24:=Tryz.zeroValue218
 t26:=Tryz.underlying3
 a26:=Tryz.isAgg3
 z26:=Tryz.sizeOf3
 v26:=Tryz.zeroValue3
 t28:=Tryz.underlying221
 a28:=Tryz.isAgg221
 z28:=Tryz.sizeOf221
 v28:=Tryz.zeroValue221
 i26:=by kernel_rfl }
def Tryz.sort208_ren:Go.Shelf.Ren:=⟨fun | 5=>208 | 8=>223 | 7=>222 | 19=>238 | 20=>191 | 10=>229 | 11=>230 | 12=>231 | 13=>232 | 14=>233 | 15=>234 | 16=>235 | 17=>236 | 18=>237 | 30=>239 | 31=>240 | 32=>241 | 33=>242 | 34=>243 | 35=>244 | 40=>245 | n=>n,fun | 23=>218 | 25=>3 | 3=>3 | 32=>234 | 22=>218 | 0=>0 | 44=>231 | 46=>195 | 4=>4 | 36=>274 | 35=>273 | 41=>167 | 5=>5 | 9=>9 | 53=>280 | 57=>284 | 63=>286 | 64=>287 | n=>n,fun | n=>n⟩
theorem Dz:Go.Proofs.SlLaysM.n5 Tryz.prog Tryz.sort208_ren:={
 mixed:=by kernel_rfl
 f5:=⟨Tryz.f208.name,by decide,Tryz.func208.trans (congrArg some (by kernel_rfl))⟩
 f7:=⟨Tryz.f222.name,by decide,Tryz.func222.trans (congrArg some (by kernel_rfl))⟩
 f8:=Tryz.func223.trans (congrArg some (by kernel_rfl))
 f10:=⟨Tryz.f229.name,by decide,Tryz.func229.trans (congrArg some (by kernel_rfl))⟩
 f11:=⟨Tryz.f230.name,by decide,Tryz.func230.trans (congrArg some (by kernel_rfl))⟩
 f12:=⟨Tryz.f231.name,by decide,Tryz.func231.trans (congrArg some (by kernel_rfl))⟩
 f13:=⟨Tryz.f232.name,by decide,Tryz.func232.trans (congrArg some (by kernel_rfl))⟩
 f14:=⟨Tryz.f233.name,by decide,Tryz.func233.trans (congrArg some (by kernel_rfl))⟩
 f15:=⟨Tryz.f234.name,by decide,Tryz.func234.trans (congrArg some (by kernel_rfl))⟩
 f16:=⟨Tryz.f235.name,by decide,Tryz.func235.trans (congrArg some (by kernel_rfl))⟩
 f17:=⟨Tryz.f236.name,by decide,Tryz.func236.trans (congrArg some (by kernel_rfl))⟩
 f18:=⟨Tryz.f237.name,by decide,Tryz.func237.trans (congrArg some (by kernel_rfl))⟩
 f19:=Tryz.func238.trans (congrArg some (by kernel_rfl))
 f20:=Tryz.func191.trans (congrArg some (by kernel_rfl))
 f30:=⟨Tryz.f239.name,by decide,Tryz.func239.trans (congrArg some (by kernel_rfl))⟩
 f31:=Tryz.func240.trans (congrArg some (by kernel_rfl))
 f32:=Tryz.func241.trans (congrArg some (by kernel_rfl))
 f33:=⟨Tryz.f242.name,by decide,Tryz.func242.trans (congrArg some (by kernel_rfl))⟩
 f34:=⟨Tryz.f243.name,by decide,Tryz.func243.trans (congrArg some (by kernel_rfl))⟩
 f35:=⟨Tryz.f244.name,by decide,Tryz.func244.trans (congrArg some (by kernel_rfl))⟩
 f40:=⟨Tryz.f245.name,by decide,Tryz.func245.trans (congrArg some (by kernel_rfl))⟩
 t0:=Tryz.underlying0
 a0:=Tryz.isAgg0
 z0:=Tryz.sizeOf0
 v0:=Tryz.zeroValue0
 t3:=Tryz.underlying3
 a3:=Tryz.isAgg3
 z3:=Tryz.sizeOf3
 v3:=Tryz.zeroValue3
 t4:=Tryz.underlying4
 a4:=Tryz.isAgg4
 z4:=Tryz.sizeOf4
 v4:=Tryz.zeroValue4
 t5:=Tryz.underlying5
 a5:=Tryz.isAgg5
 z5:=Tryz.sizeOf5
 v5:=Tryz.zeroValue5
 t9:=Tryz.underlying9
 a9:=Tryz.isAgg9
 z9:=Tryz.sizeOf9
 v9:=Tryz.zeroValue9
 t22:=Tryz.underlying218
 a22:=Tryz.isAgg218
 z22:=Tryz.sizeOf218
 v22:=Tryz.zeroValue218
 t23:=Tryz.underlying218
 a23:=Tryz.isAgg218
 z23:=Tryz.sizeOf218
 v23:=Tryz.zeroValue218
 t25:=Tryz.underlying3
 a25:=Tryz.isAgg3
 z25:=Tryz.sizeOf3
 v25:=Tryz.zeroValue3
 t32:=Tryz.underlying234
 a32:=Tryz.isAgg234
 z32:=Tryz.sizeOf234
 v32:=Tryz.zeroValue234
 t35:=Tryz.underlying273
 a35:=Tryz.isAgg273
 z35:=Tryz.sizeOf273
 v35:=Tryz.zeroValue273
 t36:=Tryz.underlying274
 a36:=Tryz.isAgg274
 z36:=Tryz.sizeOf274
 v36:=Tryz.zeroValue274
 t41:=Tryz.underlying167
 a41:=Tryz.isAgg167
 z41:=Tryz.sizeOf167
 v41:=Tryz.zeroValue167
 t44:=Tryz.underlying231
 a44:=Tryz.isAgg231
 z44:=Tryz.sizeOf231
 v44:=Tryz.zeroValue231
 t46:=Tryz.underlying195
 a46:=Tryz.isAgg195
 z46:=Tryz.sizeOf195
 v46:=Tryz.zeroValue195
 t53:=Tryz.underlying280
 a53:=Tryz.isAgg280
 z53:=Tryz.sizeOf280
 v53:=Tryz.zeroValue280
 t57:=Tryz.underlying284
 a57:=Tryz.isAgg284
 z57:=Tryz.sizeOf284
 v57:=Tryz.zeroValue284
 t63:=Tryz.underlying286
 a63:=Tryz.isAgg286
 z63:=Tryz.sizeOf286
 v63:=Tryz.zeroValue286
 t64:=Tryz.underlying287
 a64:=Tryz.isAgg287
 z64:=Tryz.sizeOf287
 v64:=Tryz.zeroValue287 }
theorem Tryz.sorts181 (m:Nat):AnyZI.SortsIn Tryz.prog KY Fence.wide m :=
  ⟨fun blk off cap ss W hH hblk hsz=>callsIn_wide.2 (AnyM.slices_Sort_int Dz blk off cap ss W hH hblk hsz),
   fun p cap W=>callsIn_wide.2 (AnyM.slices_Sort_int_none Dz p cap W)⟩
def Tryz.lays161_ren:Go.Shelf.Ren:=⟨fun | 161=>175 | 231=>166 | 227=>168 | 233=>169 | 235=>171 | 228=>196 | 197=>197 | 151=>198 | 260=>215 | 152=>216 | 137=>122 | 119=>224 | 224=>225 | 225=>226 | 217=>143 | 266=>165 | n=>n,fun | 9=>9 | 4=>4 | 3=>3 | 5=>5 | 117=>204 | 116=>203 | 0=>0 | 124=>207 | 105=>236 | 21=>21 | 119=>262 | 46=>234 | 139=>265 | 138=>264 | n=>n,fun | 3=>6 | 4=>7 | n=>n⟩
theorem Tryz.lays161:Go.Proofs.Lays.n161 Tryz.prog Tryz.lays161_ren:={
 mixed:=by kernel_rfl
 f119:=Tryz.func224.trans (congrArg some (by kernel_rfl))
 f137:=Tryz.func122.trans (congrArg some (by kernel_rfl))
 f151:=Tryz.func198.trans (congrArg some (by kernel_rfl))
 f152:=Tryz.func216.trans (congrArg some (by kernel_rfl))
 f161:=Tryz.func175.trans (congrArg some (by kernel_rfl))
 f197:=Tryz.func197.trans (congrArg some (by kernel_rfl))
 f217:=Tryz.func143.trans (congrArg some (by kernel_rfl))
 f224:=Tryz.func225.trans (congrArg some (by kernel_rfl))
 f225:=Tryz.func226.trans (congrArg some (by kernel_rfl))
 f227:=Tryz.func168.trans (congrArg some (by kernel_rfl))
 f228:=Tryz.func196.trans (congrArg some (by kernel_rfl))
 f231:=Tryz.func166.trans (congrArg some (by kernel_rfl))
 f233:=Tryz.func169.trans (congrArg some (by kernel_rfl))
 f235:=Tryz.func171.trans (congrArg some (by kernel_rfl))
 f260:=Tryz.func215.trans (congrArg some (by kernel_rfl))
 f266:=Tryz.func165.trans (congrArg some (by kernel_rfl))
 t0:=Tryz.underlying0
 a0:=Tryz.isAgg0
 z0:=Tryz.sizeOf0
 v0:=Tryz.zeroValue0
 t3:=Tryz.underlying3
 a3:=Tryz.isAgg3
 z3:=Tryz.sizeOf3
 v3:=Tryz.zeroValue3
 t4:=Tryz.underlying4
 a4:=Tryz.isAgg4
 z4:=Tryz.sizeOf4
 v4:=Tryz.zeroValue4
 t5:=Tryz.underlying5
 a5:=Tryz.isAgg5
 z5:=Tryz.sizeOf5
 v5:=Tryz.zeroValue5
 t9:=Tryz.underlying9
 a9:=Tryz.isAgg9
 z9:=Tryz.sizeOf9
 v9:=Tryz.zeroValue9
 t21:=Tryz.underlying21
 a21:=Tryz.isAgg21
 z21:=Tryz.sizeOf21
 v21:=Tryz.zeroValue21
 t46:=Tryz.underlying234
 a46:=Tryz.isAgg234
 z46:=Tryz.sizeOf234
 v46:=Tryz.zeroValue234
 t105:=Tryz.underlying236
 a105:=Tryz.isAgg236
 z105:=Tryz.sizeOf236
 v105:=Tryz.zeroValue236
 t116:=Tryz.underlying203
 a116:=Tryz.isAgg203
 z116:=Tryz.sizeOf203
 t117:=Tryz.underlying204
 a117:=Tryz.isAgg204
 z117:=Tryz.sizeOf204
 v117:=Tryz.zeroValue204
 t119:=Tryz.underlying262
 a119:=Tryz.isAgg262
 z119:=Tryz.sizeOf262
 t124:=Tryz.underlying207
 a124:=Tryz.isAgg207
 z124:=Tryz.sizeOf207
 v124:=Tryz.zeroValue207
 t138:=Tryz.underlying264
 a138:=Tryz.isAgg264
 z138:=Tryz.sizeOf264
 v138:=Tryz.zeroValue264
 t139:=Tryz.underlying265
 a139:=Tryz.isAgg265
 z139:=Tryz.sizeOf265
 v139:=Tryz.zeroValue265
 g3:=by kernel_rfl
 g4:=by kernel_rfl }
def Tryz.lays103_ren:Go.Shelf.Ren:=⟨fun | 103=>176 | 210=>205 | 206=>148 | n=>n,fun | 9=>9 | 4=>4 | 24=>213 | 3=>3 | n=>n,fun | n=>n⟩
theorem Tryz.lays103:Go.Proofs.Lays.n103 Tryz.prog Tryz.lays103_ren:={
 mixed:=by kernel_rfl
 f103:=Tryz.func176.trans (congrArg some (by kernel_rfl))
 f206:=Tryz.func148.trans (congrArg some (by kernel_rfl))
 f210:=Tryz.func205.trans (congrArg some (by kernel_rfl))
 t3:=Tryz.underlying3
 a3:=Tryz.isAgg3
 z3:=Tryz.sizeOf3
 v3:=Tryz.zeroValue3
 t4:=Tryz.underlying4
 a4:=Tryz.isAgg4
 z4:=Tryz.sizeOf4
 v4:=Tryz.zeroValue4
 t9:=Tryz.underlying9
 a9:=Tryz.isAgg9
 z9:=Tryz.sizeOf9
 v9:=Tryz.zeroValue9
 t24:=Tryz.underlying213
 a24:=Tryz.isAgg213
 z24:=Tryz.sizeOf213
 v24:=Tryz.zeroValue213 }
end
end Go.Proofs
namespace Go.Proofs.YtjcfppnjamjjhaaGreatDoor
noncomputable section
open Go.RowKit Go.Maps Go.Shelf
def Qe3 (ents:Array MapEntry) (l:List (Int×Int×Nat)):Prop:=ents.toList=l.map fun e=>⟨.int .i64 e.1,.int .i64 e.2.1,e.2.2⟩
abbrev Qqx:Value→Option (DataW Unit×List MemPlace):=fun _=>some (.lit (.bool false),[])
theorem owns_im {P:Program} {w:World} {b:Nat} {M:Qt} {ents:Array MapEntry} (hk:P.underlying 3=some (.int .i64)) (hM:Q5k M=true) (hb:w.heap[b]?=some (.map ents M.2)) (he:Qe3 ents M.1) :
  ∃ D,w.ownsMap P 3 Qqx b M.1.length D∧(intKeys D).Perm (M.1.map fun e=>e.1)∧Maps.size D=M.1.length:=by
 unfold Q5k at hM
 have h1:=QU hM;rw [h1] at hM;simp only [C7] at hM
 have h2:=QU hM;rw [h2] at hM;simp only [C7] at hM
 have h3:=QU hM;rw [h3] at hM;simp only [C7] at hM
 have hlen:M.1.length≤1000000:=C3 h1
 have hall:∀ e∈M.1,e.2.2 < M.2∧-9223372036854775808≤e.1∧e.1≤9223372036854775807:=fun e he=>by
  have:=Cg.1 h2 e he
  have a1:=QU this;rw [a1] at this;simp only [C7] at this
  have a2:=QU this;rw [a2] at this;simp only [C7] at this
  exact ⟨C3 a1,CG a2,CG this⟩
 have hkey:∀ e∈M.1,Go.keyOf P 3 (.int .i64 e.1)=some (.int .i64 e.1):=fun e he=>by
  obtain ⟨-,h4,h5⟩:=hall e he
  exact keyOf_int_mk hk (by show (decide (_≤_)&&decide (_≤_))=true;rw [CD];exact ⟨C5 h4,C5 h5⟩)
 have hsz:ents.size=M.1.length:=by rw [← Pn,he,Cm]
 have hrd:∀ e∈M.1,Go.WideElems.rd P 3 Qqx ⟨.int .i64 e.1,.int .i64 e.2.1,e.2.2⟩=some (.int .i64 e.1,.lit (.bool false)):=fun e he=>by
  simp [Go.WideElems.rd,hkey e he,Qqx]
 refine ⟨_,⟨ents,M.2,hb,⟨?_,⟨?_,?_,?_⟩,?_⟩,P6 hsz,Z⟩,?_,?_⟩
 ·rw [hsz];unfold maxLen;omega
 ·intro x hx;rw [he] at hx;obtain ⟨e,h4,rfl⟩:=Cv.1 hx;exact (hall e h4).1
 ·rw [he,CJ];exact DW h3
 ·rw [he,CJ]
  have:=DW hM
  rw [show (fun x:MapEntry=>x.key) ∘ (fun e:Int×Int×Nat=>(⟨.int .i64 e.1,.int .i64 e.2.1,e.2.2⟩:MapEntry))=(Value.int .i64) ∘ fun e=>e.1 from rfl,← CJ]
  exact SF.2 (this.imp fun hne h=>hne (by cases h;rfl))
 ·intro x hx;rw [he] at hx;obtain ⟨e,h4,rfl⟩:=Cv.1 hx;exact ⟨_,hrd e h4⟩
 ·show (List.map _ _).Perm _
  refine ((WideShapes.sorted_perm _).map _).trans ?_
  rw [he,CJ,CJ]
  refine .of_eq (Cx fun e h4=>?_)
  simp [Go.WideElems.rg,hrd e h4];rfl
 ·simp [Maps.size,length_sorted,hsz]
theorem imOk_len {M:Qt} (hM:Q5k M=true):M.1.length≤1000000:=C3 (QU hM)
theorem sortedKeys_run {w:World} {Bm b:Nat} {M:Qt} {ents:Array MapEntry} (hM:Q5k M=true) (hBm:w.cell? ⟨Bm,0,none⟩=some (.map (some b))) (hlt:Bm < w.heap.size) (hb:w.heap[b]?=some (.map ents M.2)) (he:Qe3 ents M.1) :
  CallsIn Fence.wide 5 Tryz.prog 181 #[.func (.func 209) #[] #[.pointer (some ⟨Bm,0,none⟩)]] w fun e w'=>∃ v,e=.returned v∧w'.ownsRow w.heap.size 3 1 v (JC M).length ((JC M).map (Value.int .i64))∧Below w.heap.size w w':=by
 obtain ⟨D,hown,hperm,hsize⟩:=owns_im (P:=Tryz.prog) (by kernel_rfl) hM hb he
 have hlen:=imOk_len hM
 have hseq:SeqGives Fence.wide 2 Tryz.prog 209 #[.pointer (some ⟨Bm,0,none⟩)] encZ (fun ss=>ss.Perm (intKeys D)) (Maps.size D) w :=
  AnyZI.keys_gives (ρ:=GU) { Tryz.keys182 with } Fence.wide _ trivial rfl (by omega) Bm b _ D w hlt hBm hown
 have hrun:=AnyZI.sorted_in Tryz.sorted181 Fence.wide 5 trivial trivial trivial trivial rfl (by omega) (Tryz.sorts181 _) (enters_of Tryz.func208 (by kernel_rfl) rfl) 209 #[.pointer (some ⟨Bm,0,none⟩)] trivial (enters_of Tryz.func209 (by kernel_rfl) rfl) _ _ (by rw [hsize];unfold maxLen;omega) (by rw [hsize];omega) _ hseq
 refine CallsIn.mono (show CallsIn _ _ Tryz.prog 181 _ _ _ from hrun) ?_
 rintro e w' ⟨v,ss,rfl,hS,hrow,-,hbel⟩
 have hp:=hS.trans hperm
 rw [mergeSort_sortZ hp] at hrow
 have hl:ss.length=(JC M).length:=hp.length_eq.trans (Zz _).length_eq.symm
 rw [hl] at hrow
 exact ⟨v,Z,hrow,hbel⟩
theorem reads_row {w:World} {S:Nat→Nat→Prop} {base:Nat} {v:Value} {l:List Int} (h:w.ownsRow base 3 1 v l.length (l.map (Value.int .i64))) (hS:∀ b o,base≤b→b < w.heap.size→S b o):Reads S w (.sl 1 (Enc.encL l)) v:=by
 rcases h.2 with ⟨rfl,h0⟩ | ⟨g,cap,cur,rfl,hg,hcur,hn,-,hsz,htk⟩
 ·have:l=[]:=CC h0
  subst this
  exact .sl 1 [] none 0 0 0 (fun _ _=>undef) (Ck _) (fun h=>absurd rfl h) (fun i e h=>by simp at h) (fun i e j c h=>by simp at h) (fun i e j c h=>by simp at h) (fun i e j c h=>by simp at h)
 ·have hlt:g < w.heap.size:=Y7 hcur
  have hget:∀ (i:Nat) (e:List C),(Enc.encL l)[i]?=some e→∃ x,l[i]?=some x∧e=[.v (.int .i64 x)]:=fun i e hi=>by
   rw [Enc.map,Cl] at hi
   cases hx:l[i]? with
   | none=>rw [hx] at hi;cases hi
   | some x=>rw [hx] at hi;cases hi;exact ⟨x,rfl,rfl⟩
  have hcell:∀ (i:Nat) (x:Int),l[i]?=some x→w.cell? ⟨g,i,none⟩=some (.int .i64 x):=fun i x hx=>by
   have hi:i < l.length:=(Cf.1 hx).1
   have h1:(cur.toList.take (l.length * 1))[i]?=some (.int .i64 x):=by rw [htk,Cl,hx];rfl
   rw [Pa] at h1
   rw [Cc (by omega)] at h1
   simp only [World.cell?,hcur,P2,CY,if_false]
   rw [← Pt];exact h1
  have:=Reads.sl (S:=S) (w:=w) 1 (Enc.encL l) (some ⟨g,0,none⟩) cap g 0 (fun i j=>.int .i64 (l.getD i 0)) (by rw [Enc.len];exact hn) (fun _=>rfl)
   (fun i e hi=>by obtain ⟨x,-,rfl⟩:=hget i e hi;rfl)
   (fun i e j c hi hj=>by
    obtain ⟨x,hx,rfl⟩:=hget i e hi
    cases j with
    | zero=>rw [S6,hx];simpa using hcell i x hx
    | succ j=>simp at hj)
   (fun i e j c hi hj=>hS _ _ hg hlt)
   (fun i e j c hi hj=>by
    obtain ⟨x,hx,rfl⟩:=hget i e hi
    cases j with
    | zero=>simp at hj;subst hj;rw [S6,hx];exact Reads.v _ rfl
    | succ j=>simp at hj)
  rw [Enc.len] at this;exact this
theorem sortedKeys_call {m:Mem} {b i:Nat} {T:TypeId} {M:Qt} (hb:Qpt m.hp b=some (.cells T [.mp i])) (hi:Qpt m.hp i=some (.mp (Jw M.1) M.2)) (hM:Q5k M=true) :
  CallM Tryz.prog 181 [.one (.fn 209 [(b,0)])] m (.v (.one (.d (.sl 1 (Enc.encL (JC M)))))) m:=by
 refine ⟨enters_of Tryz.func181 (by kernel_rfl) rfl,fun E V w vs hP H hn hargs=>?_⟩
 obtain ⟨hbl,o,ho,us,rfl,hus⟩:=H.own b _ hb
 obtain ⟨u,hu,-,rfl⟩:=hus.2 0 _ rfl
 obtain ⟨-,o2,ho2,ents,rfl,hsz,hents⟩:=H.own i _ hi
 obtain ⟨a,ha,-,rfl⟩:=hargs.2 0 _ rfl
 have hvs:vs=#[.func (.func 209) #[] #[.pointer (some ⟨V.ι b,0,none⟩)]]:=by
  have h1:vs.size=1:=hargs.1
  apply PD
  intro k
  cases k with
  | zero=>rw [ha];rfl
  | succ k=>simp [h1]
 rw [hvs]
 have hE:Qe3 ents M.1:=by
  have hlen:(Jw M.1).length=M.1.length:=by simp [Jw]
  apply Si
  intro k
  rw [Cl]
  cases hk:M.1[k]? with
  | none =>
   have:M.1.length≤k:=Pr.1 hk
   rw [PA,Pr,Pn];omega
  | some e =>
   obtain ⟨v,h1,h2⟩:=hents k (.int .i64 e.1) (.one (.d (.v (.int .i64 e.2.1)))) e.2.2 (by simp [Jw,hk])
   have hv:v=.int .i64 e.2.1:=by cases h2;rfl
   rw [hv] at h1
   rw [Pt,h1];rfl
 refine Calls.mono ((callsIn_wide (n:=5)).1 (sortedKeys_run (Bm:=V.ι b) (b:=V.ι i) hM ?_ (Y7 ho) ho2 hE)) ?_
 ·simp only [World.cell?,ho,P2,CY,if_false];exact hu
 ·rintro e w' ⟨v,rfl,hrow,hbel⟩
  have hx:Gv w w':=⟨hbel.os,hbel.tape,hbel.output,hbel.size,fun k hk _=>hbel.block k hk⟩
  have hg:V.Grow { V with S:=fun b o=>V.S b o∨(w.heap.size≤b∧b < w'.heap.size)} w w':=⟨Ck _,fun _ _=>rfl,fun _ _=>rfl,fun _ _ _ _=>rfl,fun b o h=>.inl h,fun b o h=>h.elim .inl fun h=>.inr h.1,
   fun b o h=>h.elim (fun h=>Cj (H.sz b o h) hbel.size) fun h=>h.2⟩
  exact ⟨v,_,Z,H.later hx hg,hn,H.le hx hg,reads_row hrow (fun b o h1 h2=>.inr ⟨h1,h2⟩)⟩
theorem OpOK.sortedKeys {E:Env} {st:St} {dd:Option Tmp} {ty:TypeId} {pos:String} {af:Array Edge} {g:Option (Nat×Bool)} {xs:Array Operand} {ats:Array TypeId} {b i:Nat} {T:TypeId} {M:Qt} (hP:E.P=Tryz.prog) (ha:Yw st.tm xs.toList=some [.one (.fn 209 [(b,0)])])
  (hb:Qpt st.hp b=some (.cells T [.mp i])) (hi:Qpt st.hp i=some (.mp (Jw M.1) M.2)) (hM:Q5k M=true) :
  OpOK E ⟨dd,.call { callee:=.value (.func 181),args:=xs,argTypes:=ats },ty,pos,af,g⟩ st (.v (.one (.d (.sl 1 (Enc.encL (JC M)))))) ⟨st.hp,st.tk,st.nx⟩ :=
 Q7t (E:=E) (st:=st) (dd:=dd) (ty:=ty) (pos:=pos) (af:=af) (g:=g) (x:=.func 181) (caps:=[]) rfl ha (by rw [hP];exact sortedKeys_call hb hi hM)
end
noncomputable section
open Go.RowKit Go.Shelf
theorem Wv {P:Program} {f:FuncId} {vs0:List Value} {res:TV} (v:Value) (hen:Qc P f) (hres:∀ V w,res.rel V w v) (h:∀ w,Calls P f vs0.toArray w fun e w'=>e=.returned v∧Gv w w'):Fun P f (vs0.map fun a=>.one (.d (.v a))) res:=by
 refine ⟨hen,fun S w vs hS hargs=>?_⟩
 have hsz:vs.size=vs0.length:=by rw [hargs.1,Cm]
 have hvs:vs=vs0.toArray:=by
  apply PD
  intro k
  cases hk:vs0[k]? with
  | none =>
   have:=Pr.1 hk
   rw [CU (by omega)]
   simp [hk]
  | some a =>
   obtain ⟨u,h1,h2⟩:=hargs.2 k (.one (.d (.v a))) (by rw [Cl,hk];rfl)
   have e:u=a:=by cases h2;rfl
   rw [h1,e]
   simp [hk]
 rw [hvs]
 exact (h w).mono fun e w' ⟨he,hx⟩=>⟨v,S,he,hx,fun _ _ h=>h,fun b o h=>⟨.inl h,Cj (hS b o h) hx.size⟩,hres _ _⟩
theorem trim_fun (s:List UInt8):Fun Tryz.prog 175 [.one (ZR s),.one (ZR [32])] (Qqr (s.dropWhile (·==32))):=by
 refine Wv (vs0:=[.string (Qpk s),.string (Qpk [32])]) (.string (Qpk (s.dropWhile (·==32)))) (enters_of Tryz.func175 (by kernel_rfl) rfl) (fun V w=>J3 rfl) fun w=>?_
 refine Calls.mono (Any.strings_TrimLeft_one Tryz.lays161 (Qpk s) 32 (by decide) w) ?_
 rintro e w' ⟨rfl,rfl⟩
 exact ⟨Z,ExtM.refl _ _⟩
theorem Q2a {v:Value} (h:v.oneCell'=true):∀ V w,(AV.one (.d (.v v))).rel V w v:=fun V w=>Reads.v v h
theorem cut_fun (s p:List UInt8):Fun Tryz.prog 176 [.one (ZR s),.one (ZR p)] (.tup [.one (ZR (Lib.trimPrefix s p)),.one (.d (.v (.bool (Lib.hasPrefix s p))))]):=by
 refine Wv (vs0:=[.string (Qpk s),.string (Qpk p)]) (.tuple #[.string (Qpk (Lib.trimPrefix s p)),.bool (Lib.hasPrefix s p)]) (enters_of Tryz.func176 (by kernel_rfl) rfl) (Qm2 (Q2a rfl) (Q2a rfl)) fun w=>?_
 refine Calls.mono (Any.strings_CutPrefix Tryz.lays103 (Qpk s) (Qpk p) w) ?_
 rintro e w' ⟨rfl,rfl⟩
 exact ⟨Z,ExtM.refl _ _⟩
def Q1k (s:List UInt8):Int:=(Lib.atoi s).getD 0
theorem atoi_fun (s:List UInt8) (h:(cond (Nat.ble s.length 18) (Lib.atoi s).isSome false)=true):Fun Tryz.prog 147 [.one (ZR s)] (.tup [.one (.d (.v (.int .i64 (Q1k s)))),.one (.d (.v .nilIface))]):=by
 have h0:=C3 (QU h)
 obtain ⟨n,hn⟩:=Option.isSome_iff_exists.1 (QO h)
 have e:Q1k s=n:=by unfold Q1k;rw [hn];rfl
 rw [e]
 refine Wv (vs0:=[.string (Qpk s)]) (.tuple #[.int .i64 n,.nilIface]) (enters_of Tryz.func147 (by kernel_rfl) rfl) (Qm2 (Q2a rfl) (Q2a rfl)) fun w=>?_
 refine Calls.mono (Any.strconv_Atoi DB (Qpk s) n (by rw [YA];exact h0) hn w) ?_
 rintro e w' ⟨rfl,t,rfl⟩
 exact ⟨Z,Kj (Lib.bytesWorld_below _ _ _)⟩
end
noncomputable section
open Go.RowKit Go.Shelf
theorem Yu:QM Tryz.prog 188 0=some 0:=by kernel_rfl
theorem Wh:QM Tryz.prog 188 1=some 1:=by kernel_rfl
theorem Wg:QM Tryz.prog 188 2=some 2:=by kernel_rfl
theorem Qbj:QM Tryz.prog 188 3=some 3:=by kernel_rfl
theorem Q48:QM Tryz.prog 212 0=some 0:=by kernel_rfl
theorem Q47:QM Tryz.prog 212 1=some 1:=by kernel_rfl
theorem Qka:Jc Tryz.prog 185=some (false,1):=by kernel_rfl
theorem Qe1:Jc Tryz.prog 210=some (false,1):=by kernel_rfl
theorem Qhv:QV Tryz.prog 218=some (3,1):=by kernel_rfl
theorem XA:Y0 Tryz.prog 82 [(0,1),(1,1)] [.int .i64 0,.slice none 0 0]:=⟨by kernel_rfl,by kernel_rfl⟩
theorem Qk3:Y0 Tryz.prog 142 [(0,1),(1,1)] [.int .i64 0,.int .i64 0]:=⟨by kernel_rfl,by kernel_rfl⟩
theorem bd_188:Y0 Tryz.prog 188 [(0,1),(1,1),(2,1),(3,1)] [.string ByteArray.empty,.bool false,.int .i64 0,.pointer none]:=⟨by kernel_rfl,by kernel_rfl⟩
theorem bd_212:Y0 Tryz.prog 212 [(0,1),(1,1)] [.map none,.int .i64 0]:=⟨by kernel_rfl,by kernel_rfl⟩
theorem el_142:K4 Tryz.prog 142=some (2,16):=by kernel_rfl
theorem Qcx:UN Tryz.prog 210=some (true,.one (.d (.v (.int .i64 0)))):=by kernel_rfl
theorem en_127:Qc Tryz.prog 127:=enters_of Tryz.func127 (by kernel_rfl) rfl
theorem en_149:Qc Tryz.prog 149:=enters_of Tryz.func149 (by kernel_rfl) rfl
theorem en_150:Qc Tryz.prog 150:=enters_of Tryz.func150 (by kernel_rfl) rfl
theorem en_151:Qc Tryz.prog 151:=enters_of Tryz.func151 (by kernel_rfl) rfl
theorem en_152:Qc Tryz.prog 152:=enters_of Tryz.func152 (by kernel_rfl) rfl
theorem en_153:Qc Tryz.prog 153:=enters_of Tryz.func153 (by kernel_rfl) rfl
theorem en_177:Qc Tryz.prog 177:=enters_of Tryz.func177 (by kernel_rfl) rfl
theorem en_178:Qc Tryz.prog 178:=enters_of Tryz.func178 (by kernel_rfl) rfl
theorem en_179:Qc Tryz.prog 179:=enters_of Tryz.func179 (by kernel_rfl) rfl
theorem en_180:Qc Tryz.prog 180:=enters_of Tryz.func180 (by kernel_rfl) rfl
theorem en_182:Qc Tryz.prog 182:=enters_of Tryz.func182 (by kernel_rfl) rfl
theorem en_183:Qc Tryz.prog 183:=enters_of Tryz.func183 (by kernel_rfl) rfl
theorem en_206:Qc Tryz.prog 206:=enters_of Tryz.func206 (by kernel_rfl) rfl
abbrev m150f0_h0 (p0_:Qr7) (p1_:Bool) (p2_:Int) (p3_:Int) (p4_:Qt):List (Nat×HB) :=
 [(0,.cells 188 [ZR p0_,Qqc p1_,Qqb p2_,.ptr 1 0]),(1,.cells 212 [.mp 2,Qqb p3_]),(2,.mp (Jw p4_.1) p4_.2)]
abbrev m150f0_h1 (p0_:Qr7) (p1_:Bool) (p2_:Int):HB :=
 .cells 188 [ZR (p0_.dropWhile (·==32)),Qqc p1_,Qqb p2_,.ptr 1 0]
abbrev Q6n (p0_:Qr7) (p1_:Bool) (p2_:Int) (p3_:Int) (p4_:Qt):List (Nat×HB) :=
 [(0,m150f0_h1 p0_ p1_ p2_),(1,.cells 212 [.mp 2,Qqb p3_]),(2,.mp (Jw p4_.1) p4_.2)]
def JH (a0:Qr7) (a1:Bool) (a2:Int) (a3:Int) (a4:Qt):Option Unit :=
 some ()
theorem ZD (a0:Qr7) (a1:Bool) (a2:Int) (a3:Int) (a4:Qt) (r:Unit) (h0:JH a0 a1 a2 a3 a4=some r):CallM Tryz.prog 150 [.one (.ptr 0 0)] ⟨m150f0_h0 a0 a1 a2 a3 a4,[],3⟩ (Qh []) ⟨Q6n a0 a1 a2 a3 a4,[],3⟩:=by
 unfold JH at h0
 refine Qp ⟨[],Q6n a0 a1 a2 a3 a4,[],3,10,[]⟩ Z Z en_150 (Qpu Z) Z .nil (fun w0 M V0 Q hv0 hQ0=>?_)
 simp only [J4]
 refine Q0<|Qpm Z Z Z<|Qpm Z Z Z<|Qpl Z Z Z (Qe Z)<|Qpl Z Z Z (Q2 Yu Z)<|Qpl Z Z Z (Q6 Q0n Z Z Z) ?_
 refine Qk Z Z (Qpu Z) (Y8 (trim_fun a0) Z (.cons (.one (.d _)) (.cons (.one (.d _)) .nil))) ?_
 refine Qpl Z Z Z (Qe Z)<|Qpl Z Z Z (Q2 Yu Z)<|QQ Z Z (Qi Q0n Z Z Z Z (Qpu Z) Z)<|Q3 ?_
 have e:=Qpj h0;subst e
 exact hQ0 _ _ _ (.inl Z) Z (J1 Qpc (hA Z) Qpv Z (Ca hv0 (Qpu Z)) Z Z Z (Qql Z Z (Qql Z Z (Qqk Z Qqj))) Z Z)
abbrev m151f1_h0 (p0_:Qr7) (p1_:Bool) (p2_:Int) (p3_:Int) (p4_:Qt):List (Nat×HB) :=
 [(0,.cells 188 [ZR p0_,Qqc p1_,Qqb p2_,.ptr 1 0]),(1,.cells 212 [.mp 2,Qqb p3_]),(2,.mp (Jw p4_.1) p4_.2)]
abbrev Q6m (p0_:(Qr7)) (p1_:Bool) (p2_:Int) (p3_:Int) (p4_:Qt):List (Nat×HB) :=
 [(0,.cells 188 [ZR p0_,Qqc p1_,Qqb p2_,.ptr 1 0]),(1,.cells 212 [.mp 2,Qqb p3_]),(2,.mp (Jw p4_.1) p4_.2)]
def Yh (a0:Qr7) (a1:Qr7) (a2:Bool) (a3:Int) (a4:Int) (a5:Qt):Option ((Qr7)) :=
 cond (Lib.hasPrefix a1 a0)
   (some (Lib.trimPrefix a1 a0))
   (some a1)
theorem ZC (a0:Qr7) (a1:Qr7) (a2:Bool) (a3:Int) (a4:Int) (a5:Qt) (r:(Qr7)) (h0:Yh a0 a1 a2 a3 a4 a5=some r):CallM Tryz.prog 151 [.one (.ptr 0 0),.one (ZR a0)] ⟨m151f1_h0 a1 a2 a3 a4 a5,[],3⟩ (Qh [.one (Qqc (Lib.hasPrefix a1 a0))]) ⟨Q6m r a2 a3 a4 a5,[],3⟩:=by
 unfold Yh at h0
 refine Qp ⟨[(4,.v (.one (Qqc (Lib.hasPrefix a1 a0))))],Q6m r a2 a3 a4 a5,[],3,22,[]⟩ Z Z en_151 (Qpu Z) Z (Jj Z .nil) (fun w0 M V0 Q hv0 hQ0=>?_)
 simp only [J4]
 refine Q4<|Q0<|Qpn Z Z Z<|Q3<|Q5<|Q4<|Q0<|Qpm Z Z Z<|Qpl Z Z Z (Qe Z)<|Qpl Z Z Z (Q2 Yu Z)<|Qpl Z Z Z (Q6 Q0n Z Z Z)<|Qpm Z Z Z ?_
 refine Qk Z Z (Qpu Z) (Y8 (cut_fun a1 a0) Z (.cons (.one (.d _)) (.cons (.one (.d _)) .nil))) ?_
 refine Qpm Z Z Z<|Qpl Z Z Z (J8 Z Z)<|Qpl Z Z Z (J8 Z Z)<|Qpn Z Z Z<|Qpn Z Z Z<|Q3<|Q5<|Q4<|Q4<|Q0<|Qpm Z Z Z<|Q3<|Q5 ?_
 refine Qy (b:=(Lib.hasPrefix a1 a0)) Z (fun c1=>?_) (fun c1=>?_)
 replace h0:=QD c1 h0
 refine Q0<|Qpm Z Z Z<|Qpm Z Z Z<|Qpl Z Z Z (Qe Z)<|Qpl Z Z Z (Q2 Yu Z)<|QQ Z Z (Qi Q0n Z Z Z Z (Qpu Z) Z)<|Q3<|Q5<|Q4<|Q0<|Qpm Z Z Z<|Qpn Z Z Z<|Q3<|Q5 ?_
 refine QT ?_
 have e:=Qpj h0;subst e
 exact hQ0 _ _ _ (.inr Z) Z (J1 (Qpg Z) (hA Z) Qpv Z (Ca hv0 (Qpu Z)) Z Z Z (Qql Z Z (Qql Z Z (Qqk Z Qqj))) Z Z)
 replace h0:=QE c1 h0
 refine QX<|Q5<|Q4<|Q0<|Qpm Z Z Z<|Qpn Z Z Z<|Q3<|Q5<|QT ?_
 have e:=Qpj h0;subst e
 exact hQ0 _ _ _ (.inr Z) Z (J1 (Qpg Z) (hA Z) Qpv Z (Ca hv0 (Qpu Z)) Z Z Z (Qql Z Z (Qql Z Z (Qqk Z Qqj))) Z Z)
def GD (a0:Qr7) (s1:Int):Option (LO Int Int) :=
 Option.bind (cond (decide (s1 < (a0.length:Int)))
   (Option.bind (J0 a0 s1) fun (x4:UInt8) =>
 cond (decide (48≤(x4.toNat:Int)))
   (Option.bind (J0 a0 s1) fun (x6:UInt8) =>
 some (decide ((x6.toNat:Int)≤57)))
   (some false))
   (some false)) (fun (v2:Bool)=>cond v2
   (some (.next (Qo (s1+1))))
   (some (.done s1)))
abbrev WB (p0_:Qr7) (p1_:Bool) (p2_:Int) (p3_:Int) (p4_:Qt):List (Nat×HB) :=
 [(0,.cells 188 [ZR p0_,Qqc p1_,Qqb p2_,.ptr 1 0]),(1,.cells 212 [.mp 2,Qqb p3_]),(2,.mp (Jw p4_.1) p4_.2)]
abbrev m177f3_h1 (p0_:Qr7) (p1_:Int) (p2_:Bool) (p3_:Int) (p4_:Int) (p5_:Qt):List (Nat×HB) :=
 [(0,.cells 188 [ZR (p0_.drop p1_.toNat),Qqc p2_,Qqb p3_,.ptr 1 0]),(1,.cells 212 [.mp 2,Qqb p4_]),(2,.mp (Jw p5_.1) p5_.2)]
abbrev Q6e (p0_:(Int×Qr7×Bool)) (p1_:Int) (p2_:Int) (p3_:Qt):List (Nat×HB) :=
 [(0,.cells 188 [ZR p0_.2.1,Qqc p0_.2.2,Qqb p1_,.ptr 1 0]),(1,.cells 212 [.mp 2,Qqb p2_]),(2,.mp (Jw p3_.1) p3_.2)]
def YL (a0:Qr7) (a1:Bool) (a2:Int) (a3:Int) (a4:Qt):Option ((Int×Qr7×Bool)) :=
 Option.bind (Qa (GD a0) Qd 0) (fun (o1:Int)=>Q7 (cond (decide (0≤o1)) (Nat.ble o1.toNat a0.length) false)
 (Q7 (cond (decide (0≤o1)) (Nat.ble o1.toNat a0.length) false)
 (Option.bind (cond (o1==0)
   (some true)
   (cond (decide (6 < o1))
   (some true)
   (cond (decide (1 < o1))
   (Option.bind (J0 (a0.take o1.toNat) 0) fun (x8:UInt8) =>
 some ((x8.toNat:Int)==48))
   (some false)))) (fun (v4:Bool)=>cond v4
   (some (0,(a0.drop o1.toNat),true))
   (Q7 ((cond (Nat.ble (a0.take o1.toNat).length 18) (Lib.atoi (a0.take o1.toNat)).isSome false))
 (some ((Q1k (a0.take o1.toNat)),(a0.drop o1.toNat),a1)))))))
theorem Q01 (a0:Qr7) (a1:Bool) (a2:Int) (a3:Int) (a4:Qt) (r:(Int×Qr7×Bool)) (h0:YL a0 a1 a2 a3 a4=some r):CallM Tryz.prog 177 [.one (.ptr 0 0)] ⟨WB a0 a1 a2 a3 a4,[],3⟩ (Qh [.one (Qqb r.1)]) ⟨Q6e r a2 a3 a4,[],3⟩:=by
 unfold YL at h0
 refine Qp ⟨[(2,.v (.one (Qqb r.1)))],Q6e r a2 a3 a4,[],3,73,[]⟩ Z Z en_177 (Qpu Z) Z (Jj Z .nil) (fun w0 M V0 Q hv0 hQ0=>?_)
 simp only [J4]
 refine Q4<|Q0<|Qpn Z Z Z<|Q3<|Q5<|Q4<|Q0<|Qpn Z Z Z<|Q3<|Q5<|Q4<|QF ?_
 refine KX 0 (fun (o1:Int)=>⟨[(0,.v (.one (.ptr 0 0))),(3,.v (.one (Qqb o1)))],WB a0 a1 a2 a3 a4,[],3,73,[]⟩) (fun (o1:Int)=>(Q7 (cond (decide (0≤o1)) (Nat.ble o1.toNat a0.length) false)
   (Q7 (cond (decide (0≤o1)) (Nat.ble o1.toNat a0.length) false)
   (Option.bind (cond (o1==0)
     (some true)
     (cond (decide (6 < o1))
     (some true)
     (cond (decide (1 < o1))
     (Option.bind (J0 (a0.take o1.toNat) 0) fun (x8:UInt8) =>
   some ((x8.toNat:Int)==48))
     (some false)))) (fun (v4:Bool)=>cond v4
     (some (0,(a0.drop o1.toNat),true))
     (Q7 ((cond (Nat.ble (a0.take o1.toNat).length 18) (Lib.atoi (a0.take o1.toNat)).isSome false))
   (some ((Q1k (a0.take o1.toNat)),(a0.drop o1.toNat),a1)))))))=some r) ?_ ?_
 refine Qv h0 (fun o2 hl1 h0=>?_)
 refine KW (GD a0) (fun s1=>⟨[(0,.v (.one (.ptr 0 0))),(3,.v (.one (Qqb s1)))],WB a0 a1 a2 a3 a4,[],3,73,[]⟩) 0 o2 (J1 (Qpg Z) (hA Z) Qpv Z (Ca hv0 (Qpu Z)) Z Z Z (Qql Z Z (Qql Z Z (Qqk Z Qqj))) Z Z) hl1 (fun s1 n1 oo1 h1 ho1=>?_)
 unfold GD at h1
 refine Q4<|Q4 ?_
 refine Jp (fun (v3:Bool)=>⟨[(0,.v (.one (.ptr 0 0))),(3,.v (.one (Qqb s1))),(31,.v (.one (Qqc v3)))],WB a0 a1 a2 a3 a4,[],3,73,[]⟩) (fun (v3:Bool)=>(cond v3
     (some (.next (Qo (s1+1))))
     (some (.done s1)))=some oo1) ?_ ?_
 refine Qv h1 (fun w2_ h2 h1=>?_)
 refine Q0<|Qpm Z Z Z<|Qpm Z Z Z<|Qpl Z Z Z (Qe Z)<|Qpl Z Z Z (Q2 Yu Z)<|Qpl Z Z Z (Q6 Q0n Z Z Z)<|Qpl Z Z Z (Q9s Qcr Z)<|Qpl Z Z Z (Qb Z Z Z)<|Qpm Z Z Z ?_
 refine QZ (d:=14) (c:=(decide (s1 < (a0.length:Int)))) Z (fun c4=>?_) (fun c4=>?_)
 replace h2:=QD c4 h2
 refine Qpm Z Z Z<|Qpl Z Z Z (Qe Z)<|Qpl Z Z Z (Q2 Yu Z)<|Qpl Z Z Z (Q6 Q0n Z Z Z)<|Qpm Z Z Z ?_
 refine Qv h2 (fun x5 hx5 h2=>?_)
 refine Qpl Z Z Z (Q9t Qcr Z Z hx5)<|Qpl Z Z Z (Qb Z Z Z)<|Qpl Z Z Z (Qm Z Z)<|Qpm Z Z Z ?_
 refine QZ (d:=23) (c:=(decide (48≤(x5.toNat:Int)))) Z (fun c6=>?_) (fun c6=>?_)
 replace h2:=QD c6 h2
 refine Qpm Z Z Z<|Qpl Z Z Z (Qe Z)<|Qpl Z Z Z (Q2 Yu Z)<|Qpl Z Z Z (Q6 Q0n Z Z Z)<|Qpm Z Z Z ?_
 refine Qv h2 (fun x7 hx7 h2=>?_)
 refine Qpl Z Z Z (Q9t Qcr Z Z hx7)<|Qpl Z Z Z (Qb Z Z Z)<|Qpl Z Z Z (Qm Z Z)<|Q3 ?_
 have e:=Qpj h2;subst e
 exact Qj (decide ((x7.toNat:Int)≤57)) (J1 (Qpg Z) (hA Z) Qpv Z (Ca hv0 (Qpu Z)) Z Z Z (Qql Z Z (Qql Z Z (Qqk Z Qqj))) Z Z) h1
 replace h2:=QE c6 h2
 refine Q8 Z Z<|Q8 Z Z<|Q8 Z Z<|Q8 Z Z<|Q8 Z Z<|Q8 Z Z<|Q8 Z Z<|Qpl Z Z Z (Qz Z Z)<|Q3 ?_
 have e:=Qpj h2;subst e
 exact Qj false (J1 (Qpg Z) (hA Z) Qpv Z (Ca hv0 (Qpu Z)) Z Z Z (Qql Z Z (Qql Z Z (Qqk Z Qqj))) Z Z) h1
 replace h2:=QE c4 h2
 refine Q8 Z Z<|Q8 Z Z<|Q8 Z Z<|Q8 Z Z<|Q8 Z Z<|Q8 Z Z<|Q8 Z Z<|Qpl Z Z Z (Qz Z Z)<|Qpm Z Z Z<|Q8 Z Z<|Q8 Z Z<|Q8 Z Z<|Q8 Z Z<|Q8 Z Z ?_
 refine Q8 Z Z<|Q8 Z Z<|Qpl Z Z Z (Qz Z Z)<|Q3 ?_
 have e:=Qpj h2;subst e
 exact Qj false (J1 (Qpg Z) (hA Z) Qpv Z (Ca hv0 (Qpu Z)) Z Z Z (Qql Z Z (Qql Z Z (Qqk Z Qqj))) Z Z) h1
 intro v3 h1
 refine Q5 ?_
 refine Qy (b:=v3) Z (fun c8=>?_) (fun c8=>?_)
 replace h1:=QD c8 h1
 refine QX<|Q5<|QF<|Q0<|Qpm Z Z Z<|Qpl Z Z Z (Qb Z Z Z)<|Qpn Z Z Z<|Q3<|Jh ?_
 have e:=Qpj h1;subst e
 refine KU (Qo (s1+1)) (J1 (Qpg Z) (hA Z) Qpv Z (Ca hv0 (Qpu Z)) Z Z Z (Qql Z Z (Qql Z Z (Qqk Z Qqj))) Z Z) ho1
 replace h1:=QE c8 h1
 refine Gh<|JN<|JN ?_
 have e:=Qpj h1;subst e
 have e_:_=_:=ho1
 subst e_
 exact KV s1 (J1 (Qpg Z) (hA Z) Qpv Z (Ca hv0 (Qpu Z)) Z Z Z (Qql Z Z (Qql Z Z (Qqk Z Qqj))) Z Z) h0
 intro o1 h0
 refine Z4<|Q5<|Q4<|Q0<|Qpm Z Z Z<|Qpl Z Z Z (Qe Z)<|Qpl Z Z Z (Q2 Yu Z)<|Qpl Z Z Z (Q6 Q0n Z Z Z)<|Qpm Z Z Z ?_
 refine Uz h0 (fun g9 h0=>?_)
 refine Qpl Z Z Z (Qkh Qcr Z Z g9)<|Qpn Z Z Z<|Q3<|Q5<|Q4<|Q0<|Qpm Z Z Z<|Qpm Z Z Z<|Qpl Z Z Z (Qe Z)<|Qpl Z Z Z (Q2 Yu Z)<|Qpl Z Z Z (Q6 Q0n Z Z Z)<|Qpm Z Z Z ?_
 refine Uz h0 (fun g10 h0=>?_)
 refine Qpl Z Z Z (Qcc Qcr Z Z g10)<|Qpl Z Z Z (Qe Z)<|Qpl Z Z Z (Q2 Yu Z)<|QQ Z Z (Qi Q0n Z Z Z Z (Qpu Z) Z)<|Q3<|Q5<|Q4<|Q4 ?_
 refine Jp (fun (v11:Bool)=>⟨[(0,.v (.one (.ptr 0 0))),(4,.v (.one (ZR (a0.take o1.toNat)))),(63,.v (.one (Qqc v11)))],m177f3_h1 a0 o1 a1 a2 a3 a4,[],3,73,[]⟩) (fun (v11:Bool)=>(cond v11
     (some (0,(a0.drop o1.toNat),true))
     (Q7 ((cond (Nat.ble (a0.take o1.toNat).length 18) (Lib.atoi (a0.take o1.toNat)).isSome false))
   (some ((Q1k (a0.take o1.toNat)),(a0.drop o1.toNat),a1))))=some r) ?_ ?_
 refine Qv h0 (fun w1_ h1 h0=>?_)
 refine Q0<|Qpm Z Z Z<|Qpl Z Z Z (Qb Z Z Z)<|Qpm Z Z Z ?_
 refine QZ (d:=51) (c:=(o1==0)) Z (fun c12=>?_) (fun c12=>?_)
 replace h1:=QD c12 h1
 refine Q8 Z Z<|Q8 Z Z<|Qpl Z Z Z (Qm Z Z)<|Qpm Z Z Z<|Q8 Z Z<|Q8 Z Z<|Q8 Z Z<|Q8 Z Z<|Q8 Z Z<|Q8 Z Z<|Q8 Z Z<|Qpl Z Z Z (Qm Z Z)<|Q3 ?_
 have e:=Qpj h1;subst e
 exact Qj true (J1 (Qpg Z) (hA Z) Qpv Z (Ca hv0 (Qpu Z)) Z Z Z (Qql Z Z (Qql Z Z (Qqk Z Qqj))) Z Z) h0
 replace h1:=QE c12 h1
 refine Qpm Z Z Z<|Qpl Z Z Z (Qb Z Z Z)<|Qpl Z Z Z (Qz Z Z)<|Qpm Z Z Z ?_
 refine QZ (d:=55) (c:=(decide (6 < o1))) Z (fun c13=>?_) (fun c13=>?_)
 replace h1:=QD c13 h1
 refine Q8 Z Z<|Q8 Z Z<|Q8 Z Z<|Q8 Z Z<|Q8 Z Z<|Q8 Z Z<|Q8 Z Z<|Qpl Z Z Z (Qm Z Z)<|Q3 ?_
 have e:=Qpj h1;subst e
 exact Qj true (J1 (Qpg Z) (hA Z) Qpv Z (Ca hv0 (Qpu Z)) Z Z Z (Qql Z Z (Qql Z Z (Qqk Z Qqj))) Z Z) h0
 replace h1:=QE c13 h1
 refine Qpm Z Z Z<|Qpl Z Z Z (Qb Z Z Z)<|Qpm Z Z Z ?_
 refine QZ (d:=58) (c:=(decide (1 < o1))) Z (fun c14=>?_) (fun c14=>?_)
 replace h1:=QD c14 h1
 refine Qpm Z Z Z ?_
 refine Qv h1 (fun x15 hx15 h1=>?_)
 refine Qpl Z Z Z (Q9t Qcr Z Z hx15)<|Qpl Z Z Z (Qb Z Z Z)<|Qpl Z Z Z (Qm Z Z)<|Qpl Z Z Z (Qz Z Z)<|Q3 ?_
 have e:=Qpj h1;subst e
 exact Qj ((x15.toNat:Int)==48) (J1 (Qpg Z) (hA Z) Qpv Z (Ca hv0 (Qpu Z)) Z Z Z (Qql Z Z (Qql Z Z (Qqk Z Qqj))) Z Z) h0
 replace h1:=QE c14 h1
 refine Q8 Z Z<|Q8 Z Z<|Q8 Z Z<|Qpl Z Z Z (Qz Z Z)<|Qpl Z Z Z (Qz Z Z)<|Q3 ?_
 have e:=Qpj h1;subst e
 exact Qj false (J1 (Qpg Z) (hA Z) Qpv Z (Ca hv0 (Qpu Z)) Z Z Z (Qql Z Z (Qql Z Z (Qqk Z Qqj))) Z Z) h0
 intro v11 h0
 refine Q5 ?_
 refine Qy (b:=v11) Z (fun c16=>?_) (fun c16=>?_)
 replace h0:=QD c16 h0
 refine Q4<|Q0<|Qpm Z Z Z<|Qpl Z Z Z (Qe Z)<|Qpl Z Z Z (Q2 Wh Z)<|QQ Z Z (Qi Qc8 Z Z Z Z (Qpu Z) Z)<|Q3<|Q5<|Q4<|Q0<|Qpn Z Z Z<|Q3<|Q5<|QT ?_
 have e:=Qpj h0;subst e
 exact hQ0 _ _ _ (.inr Z) Z (J1 (Qpg Z) (hA Z) Qpv Z (Ca hv0 (Qpu Z)) Z Z Z (Qql Z Z (Qql Z Z (Qqk Z Qqj))) Z Z)
 replace h0:=QE c16 h0
 refine QX<|Q5<|Q4<|Q0<|Qpm Z Z Z ?_
 refine Uz h0 (fun g17 h0=>?_)
 refine Qk Z Z (Qpu Z) (Y8 (atoi_fun (a0.take o1.toNat) g17) Z (.cons (.one (.d _)) .nil)) ?_
 refine Qpm Z Z Z<|Qpl Z Z Z (J8 Z Z)<|Qpl Z Z Z (J8 Z Z)<|Qpn Z Z Z<|Qpn Z Z Z<|Q3<|Q5<|Q4<|Q0<|Qpm Z Z Z<|Qpn Z Z Z<|Q3<|Q5<|QT ?_
 have e:=Qpj h0;subst e
 exact hQ0 _ _ _ (.inr Z) Z (J1 (Qpg Z) (hA Z) Qpv Z (Ca hv0 (Qpu Z)) Z Z Z (Qql Z Z (Qql Z Z (Qqk Z Qqj))) Z Z)
def Q8o (a0:Int) (a1:Int) (a2:Qt):Option Qt :=
 Option.bind (cond (!(Dk a2 a0))
   (some true)
   (some (decide ((YI a2 a0) < a1)))) (fun (v1:Bool)=>cond v1
   (some (We a2 a0 a1))
   (some a2))
theorem m206f5_ok (a0:Int) (a1:Int) (a2:Qt) (r:Qt) (h0:Q8o a0 a1 a2=some r):CallM Tryz.prog 206 [.one (.mp 0),.one (Qqb a0),.one (Qqb a1)] ⟨[(0,.mp (Jw a2.1) a2.2)],[],1⟩ (Qh []) ⟨[(0,.mp (Jw r.1) r.2)],[],1⟩:=by
 unfold Q8o at h0
 refine Qp ⟨[],[(0,.mp (Jw r.1) r.2)],[],1,24,[]⟩ Z Z en_206 (Qpu Z) Z .nil (fun w0 M V0 Q hv0 hQ0=>?_)
 simp only [J4]
 refine Q4<|Q0<|Qpm Z Z Z<|Qpm Z Z Z<|Qpl Z Z Z (RO.lookupT Qcx Z Z Z)<|Qpm Z Z Z<|Qpl Z Z Z (J8 Z Z)<|Qpl Z Z Z (J8 Z Z)<|Qpn Z Z Z<|Qpn Z Z Z<|Q3<|Q5<|Q4 ?_
 refine Jp (fun (v1:Bool)=>⟨[(0,.v (.one (.mp 0))),(1,.v (.one (Qqb a0))),(2,.v (.one (Qqb a1))),(20,.v (.one (Qqc v1)))],[(0,.mp (Jw a2.1) a2.2)],[],1,24,[]⟩) (fun (v1:Bool)=>(cond v1
     (some (We a2 a0 a1))
     (some a2))=some r) ?_ ?_
 refine Qv h0 (fun w1_ h1 h0=>?_)
 refine Q0<|Qpm Z Z Z<|Qpl Z Z Z (Gt Z)<|Qpm Z Z Z ?_
 refine QZ (d:=16) (c:=(!(Dk a2 a0))) Z (fun c2=>?_) (fun c2=>?_)
 replace h1:=QD c2 h1
 refine Q8 Z Z<|Q8 Z Z<|Q8 Z Z<|Qpl Z Z Z (Qm Z Z)<|Q3 ?_
 have e:=Qpj h1;subst e
 exact Qj true (J1 (Qpg Z) (hA Z) Qpv Z (Ca hv0 (Qpu Z)) Z Z Z (Qqk Z Qqj) Z Z) h0
 replace h1:=QE c2 h1
 refine Qpm Z Z Z<|Qpm Z Z Z<|Qpl Z Z Z (Qb Z Z Z)<|Qpl Z Z Z (Qz Z Z)<|Q3 ?_
 have e:=Qpj h1;subst e
 exact Qj (decide ((YI a2 a0) < a1)) (J1 (Qpg Z) (hA Z) Qpv Z (Ca hv0 (Qpu Z)) Z Z Z (Qqk Z Qqj) Z Z) h0
 intro v1 h0
 refine Q5 ?_
 refine Qy (b:=v1) Z (fun c3=>?_) (fun c3=>?_)
 replace h0:=QD c3 h0
 refine Q0<|Qpm Z Z Z<|Qpm Z Z Z<|Qpm Z Z Z<|QQ Z Z (OpOK.mapSetI Qcx Z Z Z Z Z)<|Q3 ?_
 have e:=Qpj h0;subst e
 exact hQ0 _ _ _ (.inl Z) Z (J1 Qpc (hA Z) Qpv Z (Ca hv0 (Qpu Z)) Z Z Z (Qqk Z Qqj) Z Z)
 replace h0:=QE c3 h0
 refine QX ?_
 have e:=Qpj h0;subst e
 exact hQ0 _ _ _ (.inl Z) Z (J1 Qpc (hA Z) Qpv Z (Ca hv0 (Qpu Z)) Z Z Z (Qqk Z Qqj) Z Z)
def Kr (a0:Lvl) (a1:Int) (s1:Int×Qt):Option (LO (Int×Qt) Qt) :=
 cond (decide (s1.1 < (a0.vs.length:Int)))
   (Option.bind (J0 a0.vs s1.1) fun (x3:Qr1) =>
 Option.bind (Q8o x3.1 (Qo (x3.2+a1)) s1.2) fun (x4:Qt) =>
 some (.next ((Qo (s1.1+1)),x4)))
   (some (.done s1.2))
def Xb (a0:Lvl) (a1:Int) (a2:Int) (a3:Qt):Option Qt :=
 Option.bind (Qa (Kr a0 a1) Qd (0,a3)) (fun (o1:Qt)=>some o1)
theorem m180f4_ok (a0:Lvl) (a1:Int) (a2:Int) (a3:Qt) (r:Qt) (h0:Xb a0 a1 a2 a3=some r):CallM Tryz.prog 180 [.one (.ptr 0 0),.agg (Qqf a0),.one (Qqb a1)] ⟨[(0,.cells 212 [.mp 1,Qqb a2]),(1,.mp (Jw a3.1) a3.2)],[],2⟩ (Qh []) ⟨[(0,.cells 212 [.mp 1,Qqb (max a2 (Qo (a0.c+a1)))]),(1,.mp (Jw r.1) r.2)],[],3⟩:=by
 unfold Xb at h0
 refine Qp ⟨[],[(0,.cells 212 [.mp 1,Qqb (max a2 (Qo (a0.c+a1)))]),(1,.mp (Jw r.1) r.2)],[],3,39,[]⟩ Z Z en_180 (Qpu Z) Z .nil (fun w0 M V0 Q hv0 hQ0=>?_)
 simp only [J4]
 refine Q4<|Q0<|Qk Z Z (Qpu Z) (JZ Z)<|Q3<|Q5<|Q4 ?_
 refine YD [12] [] mixed (by kernel_rfl) (by kernel_rfl) (by kernel_rfl) ?_
 refine RunA.rd Z Z Z (Q9 (YE Z)) Z<|RunA.rd Z Z Z (Q9 (YE Z)) Z<|RunA.rd Z Z Z (Q9 (Qe Z)) Z<|RunA.rd Z Z Z (Q9 (Q2 Q47 Z)) Z<|RunA.rd Z Z Z (Q9 (Q6 JY Z Z Z)) Z<|RunA.rd Z Z Z (Q9 (Q2 Q2g Z)) Z<|RunA.rd Z Z Z (Q9 (Q6 JY Z Z Z)) Z<|RunA.rd Z Z Z (Q9 (YE Z)) Z<|RunA.rd Z Z Z (Q9 (Qb Z Z Z)) Z<|RunA.rd Z Z Z (Q9 (WO Z Z)) Z<|RunA.rd Z Z Z (Q9 (Qe Z)) Z<|RunA.rd Z Z Z (Q9 (Q2 Q47 Z)) Z<|RunA.eff Z Z Z (Qi JY Z Z Z Z (Qpu Z) Z) Z ?_
 refine RunA.nil ⟨?ex,_,_,Z,?_⟩
 case ex=>exact trivial
 refine Xp (st':=⟨[(0,.v (.one (.ptr 0 0))),(2,.v (.one (Qqb a1))),(4,.v (.one (.ptr 2 0)))],[(0,.cells 212 [.mp 1,Qqb (max a2 (Qo (a0.c+a1)))]),(1,.mp (Jw a3.1) a3.2),(2,.cells 82 (Qqf a0))],[],3,39,[]⟩) (J1 (Qpg Z) (hA Z) Qpv Z (Ca hv0 (Qpu Z)) Z Z Z (Qql Z Z (Qqk Z (Qqm Z))) Z Z)<|Q5<|Q4<|Q0<|Qpl Z Z Z (Q2 Dm Z)<|Qpl Z Z Z (Q6 Qc7 Z Z Z)<|Qpl Z Z Z (JG (α:=Qr1) UT Z (.d _))<|Qpm Z Z Z<|Q3<|Q5<|QF ?_
 refine KX 0 (fun (o1:Qt)=>⟨[],[(0,.cells 212 [.mp 1,Qqb (max a2 (Qo (a0.c+a1)))]),(1,.mp (Jw o1.1) o1.2),(2,.cells 82 (Qqf a0))],[],3,39,[]⟩) (fun (o1:Qt)=>(some o1)=some r) ?_ ?_
 refine Qv h0 (fun o2 hl1 h0=>?_)
 refine KW (Kr a0 a1) (fun s1=>⟨[(0,.v (.one (.ptr 0 0))),(2,.v (.one (Qqb a1))),(21,.v (.one (Qq9 a0.vs))),(22,.v (.one (Qqb (a0.vs.length:Int)))),(23,.v (.one (Qqb s1.1)))],[(0,.cells 212 [.mp 1,Qqb (max a2 (Qo (a0.c+a1)))]),(1,.mp (Jw s1.2.1) s1.2.2),(2,.cells 82 (Qqf a0))],[],3,39,[]⟩) (0,a3) o2 (J1 (Qpg Z) (hA Z) Qpv Z (Ca hv0 (Qpu Z)) Z Z Z (Qql Z Z (Qqk Z (Qqm Z))) Z Z) hl1 (fun s1 n1 oo1 h1 ho1=>?_)
 unfold Kr at h1
 refine Q4<|Q0<|Qpl Z Z Z (Qb Z Z Z)<|Q3<|Q5<|Q4 ?_
 refine Qy (b:=(decide (s1.1 < (a0.vs.length:Int)))) Z (fun c3=>?_) (fun c3=>?_)
 replace h1:=QD c3 h1
 refine QX<|Q5<|Q4<|QF<|Q4<|Q0 ?_
 refine Qv h1 (fun x4 hx4 h1=>?_)
 refine Qpl Z Z Z (GX (α:=Qr1) UT Z (.d _) Z hx4)<|Qpl Z Z Z (Kk (x4:Qr1) Q53 Z)<|Qk Z Z (Qpu Z) (QR Qe6 Z)<|QQ Z Z (Zs (x4:Qr1) Q53 Z Z Z Z Z)<|Q3<|Q5 ?_
 refine YD [10] [] mixed (by kernel_rfl) (by kernel_rfl) (by kernel_rfl) ?_
 refine RunA.rd Z Z Z (Q9 (YE Z)) Z<|RunA.rd Z Z Z (Q9 (Qe Z)) Z<|RunA.rd Z Z Z (Q9 (Q2 Q48 Z)) Z<|RunA.rd Z Z Z (Q9 (Q6 Qe1 Z Z Z)) Z<|RunA.rd Z Z Z (Q9 (Q2 fo_142_0 Z)) Z<|RunA.rd Z Z Z (Q9 (Q6 JY Z Z Z)) Z<|RunA.rd Z Z Z (Q9 (Q2 Q49 Z)) Z<|RunA.rd Z Z Z (Q9 (Q6 JY Z Z Z)) Z<|RunA.rd Z Z Z (Q9 (YE Z)) Z<|RunA.rd Z Z Z (Q9 (Qb Z Z Z)) Z ?_
 refine Qv h1 (fun x5 hx5 h1=>?_)
 refine RunA.eff Z Z Z (Qn (hp1':=[(1,.mp (Jw x5.1) x5.2)]) (tk1':=[]) (hpF:=[(0,.cells 212 [.mp 1,Qqb (max a2 (Qo (a0.c+a1)))]),(2,.cells 82 (Qqf a0)),(3,.cells 142 (Qqf x4))]) (tkF:=[]) (res2:=Qh []) (nx2:=4) [1] Z Z (m206f5_ok x4.1 (Qo (x4.2+a1)) s1.2 x5 hx5) Z Z (Qpp Z Qpo) Z Z (Qq7 Z Qq5) Qq0 (hA Z) Qpv Z Z Z Z Z (Qqk Z Qqj) Z Z Z Z) Z ?_
 refine RunA.nil ⟨?ex,_,_,Z,?_⟩
 case ex=>exact trivial
 refine Xp (st':=⟨[(0,.v (.one (.ptr 0 0))),(2,.v (.one (Qqb a1))),(21,.v (.one (Qq9 a0.vs))),(22,.v (.one (Qqb (a0.vs.length:Int)))),(23,.v (.one (Qqb s1.1)))],[(0,.cells 212 [.mp 1,Qqb (max a2 (Qo (a0.c+a1)))]),(1,.mp (Jw x5.1) x5.2),(2,.cells 82 (Qqf a0)),(3,.cells 142 (Qqf x4))],[],4,39,[]⟩) (J1 (Qpg Z) (hA Z) Qpv Z (Ca hv0 (Qpu Z)) Z Z Z (Qql Z Z (Qqk Z (Qqm Z))) Z Z)<|Jh<|Q5<|Q0<|Qpl Z Z Z (Qb Z Z Z)<|Qpm Z Z Z<|Q3 ?_
 have e:=Qpj h1;subst e
 refine KU ((Qo (s1.1+1)),x5) (J1 (Qpg Z) (hA Z) Qpv Z (Ca hv0 (Qpu Z)) Z Z Z (Qql Z Z (Qqk Z (Qqm Z))) Z Z) ho1
 replace h1:=QE c3 h1
 refine Gh<|JN<|JN ?_
 have e:=Qpj h1;subst e
 have e_:_=_:=ho1
 subst e_
 exact KV s1.2 (J1 Qpc (hA Z) Qpv Z (Ca hv0 (Qpu Z)) Z Z Z (Qql Z Z (Qqk Z (Qqm Z))) Z Z) h0
 intro o1 h0
 refine Z4 ?_
 have e:=Qpj h0;subst e
 exact hQ0 _ _ _ (.inl Z) Z (J1 Qpc (hA Z) Qpv Z (Ca hv0 (Qpu Z)) Z Z Z (Qql Z Z (Qqk Z Qqj)) Z Z)
abbrev Q6l (p0_:(Int×Qr7×Bool)) (p1_:Int) (p2_:Int) (p3_:Qt):List (Nat×HB) :=
 [(0,.cells 188 [ZR p0_.2.1,Qqc p0_.2.2,Qqb p1_,.ptr 1 0]),(1,.cells 212 [.mp 2,Qqb p2_]),(2,.mp (Jw p3_.1) p3_.2),(3,.cells 82 [Qqb 0,Qqa])]
abbrev m152f2_h1 (p0_:Int×Qr7×Bool) (p1_:Int) (p2_:Int) (p3_:Qt):List (Nat×HB) :=
 [(0,.cells 188 [ZR p0_.2.1,Qqc p0_.2.2,Qqb p1_,.ptr 1 0]),(1,.cells 212 [.mp 2,Qqb p2_]),(2,.mp (Jw p3_.1) p3_.2),(3,.cells 82 [Qqb 0,Qqa])]
abbrev Q6k (p0_:Int×Qr7×Bool) (p1_:Int) (p2_:Int) (p3_:Qt) (p4_:Int×(List Qr1)):List (Nat×HB) :=
 [(0,.cells 188 [ZR p0_.2.1,Qqc p0_.2.2,Qqb p1_,.ptr 1 0]),(1,.cells 212 [.mp 2,Qqb p2_]),(2,.mp (Jw p3_.1) p3_.2),(3,.cells 82 [Qqb 0,Qqa]),(4,.cells 82 [Qqb 0,Qq9 p4_.2])]
abbrev m152f2_h3 (p0_:Int×Qr7×Bool) (p1_:Int) (p2_:Int) (p3_:Qt):List (Nat×HB) :=
 [(0,.cells 188 [ZR p0_.2.1,Qqc p0_.2.2,Qqb p1_,.ptr 1 0]),(1,.cells 212 [.mp 2,Qqb p2_]),(2,.mp (Jw p3_.1) p3_.2),(3,.cells 82 [Qqb 0,Qqa]),(4,.cells 82 [Qqb 0,Qqa])]
abbrev Q6j (p0_:(Int×Qr7×Bool)) (p1_:Int) (p2_:Int) (p3_:Qt) (p4_:Int×Int):List (Nat×HB) :=
 [(0,.cells 188 [ZR p0_.2.1,Qqc p0_.2.2,Qqb p1_,.ptr 1 0]),(1,.cells 212 [.mp 2,Qqb p2_]),(2,.mp (Jw p3_.1) p3_.2),(3,.cells 82 [Qqb 0,Qqa]),(4,.cells 82 [Qqb p4_.2,Qqa])]
abbrev Q6i (p0_:Int×Int×(List Qr1)×Qr7×Bool×Int×(List Qr1)) (p1_:Int):HB :=
 .cells 188 [ZR p0_.2.2.2.1,Qqc p0_.2.2.2.2.1,Qqb p1_,.ptr 1 0]
abbrev m152f2_h6 (p0_:Int×Int×(List Qr1)×Qr7×Bool×Int×(List Qr1)) (p1_:Int):List (Nat×HB) :=
 [(0,Q6i p0_ p1_),(3,.cells 82 [Qqb p0_.2.1,Qq9 p0_.2.2.1]),(4,.cells 82 [Qqb p0_.2.2.2.2.2.1,Qq9 p0_.2.2.2.2.2.2])]
abbrev m152f2_h7 (p0_:Qr7) (p1_:Bool) (p2_:Int) (p3_:Int) (p4_:Qt):List (Nat×HB) :=
 [(0,.cells 188 [ZR p0_,Qqc p1_,Qqb p2_,.ptr 1 0]),(1,.cells 212 [.mp 2,Qqb p3_]),(2,.mp (Jw p4_.1) p4_.2)]
abbrev Q6h (p0_:(Qr7×Bool×Int×Int×Qt)):List (Nat×HB) :=
 [(0,.cells 188 [ZR p0_.1,Qqc p0_.2.1,Qqb p0_.2.2.1,.ptr 1 0]),(1,.cells 212 [.mp 2,Qqb p0_.2.2.2.1]),(2,.mp (Jw p0_.2.2.2.2.1) p0_.2.2.2.2.2)]
def W1 (a0:Qr7) (a1:Bool) (a2:Int) (a3:Int) (a4:Qt):Option ((Qr7×Bool×Int×Int×Qt)) :=
 Option.bind (Yh ([117]:List UInt8) a0 a1 a2 a3 a4) fun (x1:(Qr7)) =>
 Option.bind (cond (Lib.hasPrefix a0 ([117]:List UInt8))
   (some (true,x1))
   (Option.bind (Yh ([63]:List UInt8) x1 a1 a2 a3 a4) fun (x4:(Qr7)) =>
 some ((Lib.hasPrefix x1 ([63]:List UInt8)),x4))) (fun (v2:Bool×Qr7)=>Option.bind (cond v2.1
   (Option.bind (YL v2.2 a1 a2 a3 a4) fun (x5:(Int×Qr7×Bool)) =>
 Option.bind (cond (!(Lib.hasPrefix a0 ([117]:List UInt8)))
   (some (Qo ((-1) - x5.1)))
   (some x5.1)) (fun (v6:Int)=>Option.bind (JH x5.2.1 x5.2.2 a2 a3 a4) fun (x7:Unit) =>
 Option.bind (Yh ([43]:List UInt8) (x5.2.1.dropWhile (·==32)) x5.2.2 a2 a3 a4) fun (x8:(Qr7)) =>
 Option.bind (cond (Lib.hasPrefix (x5.2.1.dropWhile (·==32)) ([43]:List UInt8))
   (Option.bind (JH x8 x5.2.2 a2 a3 a4) fun (x11:Unit) =>
 Option.bind (YL (x8.dropWhile (·==32)) x5.2.2 a2 a3 a4) fun (x12:(Int×Qr7×Bool)) =>
 some (x12.1,x12.2.1,x12.2.2))
   (some (0,x8,x5.2.2))) (fun (v9:Int×Qr7×Bool)=>Option.bind (Option.bind (cond (decide (v6 < (-65536)))
   (some true)
   (cond (decide (7 < v6))
   (some true)
   (some (decide (v9.1 < 0))))) (fun (v12:Bool)=>cond v12
   (some (2,([]:List Qr1)))
   (cond (decide (100 < v9.1))
   (some (15,([]:List Qr1)))
   (some (0,[(v6,v9.1)]))))) (fun (y10:Int×(List Qr1))=>some (y10.1,0,y10.2,v9.2.1,v9.2.2,0,y10.2)))))
   (Option.bind (YL v2.2 a1 a2 a3 a4) fun (x21:(Int×Qr7×Bool)) =>
 Option.bind (cond (decide (x21.1 < 0))
   (some (2,0))
   (cond (decide (100 < x21.1))
   (some (15,0))
   (some (0,x21.1)))) (fun (y22:Int×Int)=>some (y22.1,y22.2,([]:List Qr1),x21.2.1,x21.2.2,y22.2,([]:List Qr1))))) (fun (v3:Int×Int×(List Qr1)×Qr7×Bool×Int×(List Qr1))=>Option.bind (cond (a2==0)
   (some v3.1)
   (some a2)) (fun (v4:Int)=>Option.bind (Xb (⟨v3.2.1,v3.2.2.1⟩:Lvl) 0 a3 a4) fun (x5:Qt) =>
 some (v3.2.2.2.1,v3.2.2.2.2.1,v4,(max a3 (Qo ((⟨v3.2.1,v3.2.2.1⟩:Lvl).c+0))),x5))))
theorem Q6g (a0:Qr7) (a1:Bool) (a2:Int) (a3:Int) (a4:Qt) (r:(Qr7×Bool×Int×Int×Qt)) (h0:W1 a0 a1 a2 a3 a4=some r):CallM Tryz.prog 152 [.one (.ptr 0 0)] ⟨m152f2_h7 a0 a1 a2 a3 a4,[],3⟩ (Qh []) ⟨Q6h r,[],6⟩:=by
 unfold W1 at h0
 refine Qp ⟨[],Q6h r,[],6,55,[]⟩ Z Z en_152 (Qpu Z) Z .nil (fun w0 M V0 Q hv0 hQ0=>?_)
 simp only [J4]
 refine Q4<|Q0<|Qk Z Z (Qpu Z) (QR Qch Z)<|Q3<|Q5<|Q4<|Q0<|Qpn Z Z Z<|Q3<|Q5<|Q4<|Q0<|Qpm Z Z Z ?_
 refine Qv h0 (fun x1 hx1 h0=>?_)
 refine Qk Z Z (Qpu Z) (Qn (hp1':=[(0,.cells 188 [ZR x1,Qqc a1,Qqb a2,.ptr 1 0]),(1,.cells 212 [.mp 2,Qqb a3]),(2,.mp (Jw a4.1) a4.2)]) (tk1':=[]) (hpF:=[(3,.cells 82 [Qqb 0,Qqa])]) (tkF:=[]) (res2:=Qh [.one (Qqc (Lib.hasPrefix a0 ([117]:List UInt8)))]) (nx2:=4) [0,1,2] Z Z (ZC ([117]:List UInt8) a0 a1 a2 a3 a4 x1 hx1) Z Z (Qpq Z Z (Qpq Z Z (Qpp Z Qpo))) Z Z (Qq6 Z (Qq6 Z (Qq7 Z Qq5))) Qq0 (hA Z) Qpv Z Z Z Z Z (Qql Z Z (Qql Z Z (Qqk Z Qqj))) Z Z Z Z)<|Qpn Z Z Z<|Q3<|Q5<|Q4<|Q4 ?_
 refine Jp (fun (v2:Bool×Qr7)=>⟨[(0,.v (.one (.ptr 0 0))),(2,.v (.one (.ptr 3 0))),(4,.v (.one (Qqc (Lib.hasPrefix a0 ([117]:List UInt8))))),(13,.v (.one (Qqc v2.1)))],[(0,.cells 188 [ZR v2.2,Qqc a1,Qqb a2,.ptr 1 0]),(1,.cells 212 [.mp 2,Qqb a3]),(2,.mp (Jw a4.1) a4.2),(3,.cells 82 [Qqb 0,Qqa])],[],4,55,[]⟩) (fun (v2:Bool×Qr7)=>(Option.bind (cond v2.1
     (Option.bind (YL v2.2 a1 a2 a3 a4) fun (x5:(Int×Qr7×Bool)) =>
   Option.bind (cond (!(Lib.hasPrefix a0 ([117]:List UInt8)))
     (some (Qo ((-1) - x5.1)))
     (some x5.1)) (fun (v6:Int)=>Option.bind (JH x5.2.1 x5.2.2 a2 a3 a4) fun (x7:Unit) =>
   Option.bind (Yh ([43]:List UInt8) (x5.2.1.dropWhile (·==32)) x5.2.2 a2 a3 a4) fun (x8:(Qr7)) =>
   Option.bind (cond (Lib.hasPrefix (x5.2.1.dropWhile (·==32)) ([43]:List UInt8))
     (Option.bind (JH x8 x5.2.2 a2 a3 a4) fun (x11:Unit) =>
   Option.bind (YL (x8.dropWhile (·==32)) x5.2.2 a2 a3 a4) fun (x12:(Int×Qr7×Bool)) =>
   some (x12.1,x12.2.1,x12.2.2))
     (some (0,x8,x5.2.2))) (fun (v9:Int×Qr7×Bool)=>Option.bind (Option.bind (cond (decide (v6 < (-65536)))
     (some true)
     (cond (decide (7 < v6))
     (some true)
     (some (decide (v9.1 < 0))))) (fun (v12:Bool)=>cond v12
     (some (2,([]:List Qr1)))
     (cond (decide (100 < v9.1))
     (some (15,([]:List Qr1)))
     (some (0,[(v6,v9.1)]))))) (fun (y10:Int×(List Qr1))=>some (y10.1,0,y10.2,v9.2.1,v9.2.2,0,y10.2)))))
     (Option.bind (YL v2.2 a1 a2 a3 a4) fun (x21:(Int×Qr7×Bool)) =>
   Option.bind (cond (decide (x21.1 < 0))
     (some (2,0))
     (cond (decide (100 < x21.1))
     (some (15,0))
     (some (0,x21.1)))) (fun (y22:Int×Int)=>some (y22.1,y22.2,([]:List Qr1),x21.2.1,x21.2.2,y22.2,([]:List Qr1))))) (fun (v3:Int×Int×(List Qr1)×Qr7×Bool×Int×(List Qr1))=>Option.bind (cond (a2==0)
     (some v3.1)
     (some a2)) (fun (v4:Int)=>Option.bind (Xb (⟨v3.2.1,v3.2.2.1⟩:Lvl) 0 a3 a4) fun (x5:Qt) =>
   some (v3.2.2.2.1,v3.2.2.2.2.1,v4,(max a3 (Qo ((⟨v3.2.1,v3.2.2.1⟩:Lvl).c+0))),x5))))=some r) ?_ ?_
 refine Qv h0 (fun w1_ h1 h0=>?_)
 refine Q0<|Qpm Z Z Z<|Qpm Z Z Z ?_
 refine QZ (d:=10) (c:=(Lib.hasPrefix a0 ([117]:List UInt8))) Z (fun c3=>?_) (fun c3=>?_)
 replace h1:=QD c3 h1
 refine Q8 Z Z<|Q8 Z Z<|Qpl Z Z Z (Qm Z Z)<|Q3 ?_
 have e:=Qpj h1;subst e
 exact Qj (true,x1) (J1 (Qpg Z) (hA Z) Qpv Z (Ca hv0 (Qpu Z)) Z Z Z (Qql Z Z (Qql Z Z (Qqk Z (Qqm Z)))) Z Z) h0
 replace h1:=QE c3 h1
 refine Qpm Z Z Z ?_
 refine Qv h1 (fun x4 hx4 h1=>?_)
 refine Qk Z Z (Qpu Z) (Qn (hp1':=[(0,.cells 188 [ZR x4,Qqc a1,Qqb a2,.ptr 1 0]),(1,.cells 212 [.mp 2,Qqb a3]),(2,.mp (Jw a4.1) a4.2)]) (tk1':=[]) (hpF:=[(3,.cells 82 [Qqb 0,Qqa])]) (tkF:=[]) (res2:=Qh [.one (Qqc (Lib.hasPrefix x1 ([63]:List UInt8)))]) (nx2:=4) [0,1,2] Z Z (ZC ([63]:List UInt8) x1 a1 a2 a3 a4 x4 hx4) Z Z (Qpq Z Z (Qpq Z Z (Qpp Z Qpo))) Z Z (Qq6 Z (Qq6 Z (Qq7 Z Qq5))) Qq0 (hA Z) Qpv Z Z Z Z Z (Qql Z Z (Qql Z Z (Qqk Z Qqj))) Z Z Z Z)<|Qpl Z Z Z (Qz Z Z)<|Q3 ?_
 have e:=Qpj h1;subst e
 exact Qj ((Lib.hasPrefix x1 ([63]:List UInt8)),x4) (J1 (Qpg Z) (hA Z) Qpv Z (Ca hv0 (Qpu Z)) Z Z Z (Qql Z Z (Qql Z Z (Qqk Z (Qqm Z)))) Z Z) h0
 intro v2 h0
 refine Q5 ?_
 refine Jp (fun (v5:Int×Int×(List Qr1)×Qr7×Bool×Int×(List Qr1))=>⟨[(0,.v (.one (.ptr 0 0))),(2,.v (.one (.ptr 3 0))),(3,.v (.one (Qqb v5.1)))],[(0,.cells 188 [ZR v5.2.2.2.1,Qqc v5.2.2.2.2.1,Qqb a2,.ptr 1 0]),(1,.cells 212 [.mp 2,Qqb a3]),(2,.mp (Jw a4.1) a4.2),(3,.cells 82 [Qqb v5.2.1,Qq9 v5.2.2.1]),(4,.cells 82 [Qqb v5.2.2.2.2.2.1,Qq9 v5.2.2.2.2.2.2])],[],5,55,[]⟩) (fun (v5:Int×Int×(List Qr1)×Qr7×Bool×Int×(List Qr1))=>(Option.bind (cond (a2==0)
     (some v5.1)
     (some a2)) (fun (v6:Int)=>Option.bind (Xb (⟨v5.2.1,v5.2.2.1⟩:Lvl) 0 a3 a4) fun (x7:Qt) =>
   some (v5.2.2.2.1,v5.2.2.2.2.1,v6,(max a3 (Qo ((⟨v5.2.1,v5.2.2.1⟩:Lvl).c+0))),x7)))=some r) ?_ ?_
 refine Qv h0 (fun w1_ h1 h0=>?_)
 refine Qy (b:=v2.1) Z (fun c6=>?_) (fun c6=>?_)
 replace h1:=QD c6 h1
 refine Q4<|Q0<|Qpm Z Z Z ?_
 refine Qv h1 (fun x7 hx7 h1=>?_)
 refine Qk Z Z (Qpu Z) (Qn (hp1':=[(0,.cells 188 [ZR x7.2.1,Qqc x7.2.2,Qqb a2,.ptr 1 0]),(1,.cells 212 [.mp 2,Qqb a3]),(2,.mp (Jw a4.1) a4.2)]) (tk1':=[]) (hpF:=[(3,.cells 82 [Qqb 0,Qqa])]) (tkF:=[]) (res2:=Qh [.one (Qqb x7.1)]) (nx2:=4) [0,1,2] Z Z (Q01 v2.2 a1 a2 a3 a4 x7 hx7) Z Z (Qpq Z Z (Qpq Z Z (Qpp Z Qpo))) Z Z (Qq6 Z (Qq6 Z (Qq7 Z Qq5))) Qq0 (hA Z) Qpv Z Z Z Z Z (Qql Z Z (Qql Z Z (Qqk Z Qqj))) Z Z Z Z)<|Qpn Z Z Z<|Q3<|Q5<|Q4<|Q4<|Q0<|Qpm Z Z Z<|Qpl Z Z Z (Gt Z)<|Q3<|Q5 ?_
 refine Jp (fun (v8:Int)=>⟨[(0,.v (.one (.ptr 0 0))),(2,.v (.one (.ptr 3 0))),(5,.v (.one (Qqb v8)))],Q6l x7 a2 a3 a4,[],4,55,[]⟩) (fun (v8:Int)=>(Option.bind (JH x7.2.1 x7.2.2 a2 a3 a4) fun (x9:Unit) =>
   Option.bind (Yh ([43]:List UInt8) (x7.2.1.dropWhile (·==32)) x7.2.2 a2 a3 a4) fun (x10:(Qr7)) =>
   Option.bind (cond (Lib.hasPrefix (x7.2.1.dropWhile (·==32)) ([43]:List UInt8))
     (Option.bind (JH x10 x7.2.2 a2 a3 a4) fun (x13:Unit) =>
   Option.bind (YL (x10.dropWhile (·==32)) x7.2.2 a2 a3 a4) fun (x14:(Int×Qr7×Bool)) =>
   some (x14.1,x14.2.1,x14.2.2))
     (some (0,x10,x7.2.2))) (fun (v11:Int×Qr7×Bool)=>Option.bind (Option.bind (cond (decide (v8 < (-65536)))
     (some true)
     (cond (decide (7 < v8))
     (some true)
     (some (decide (v11.1 < 0))))) (fun (v14:Bool)=>cond v14
     (some (2,([]:List Qr1)))
     (cond (decide (100 < v11.1))
     (some (15,([]:List Qr1)))
     (some (0,[(v8,v11.1)]))))) (fun (y12:Int×(List Qr1))=>some (y12.1,0,y12.2,v11.2.1,v11.2.2,0,y12.2))))=some w1_) ?_ ?_
 refine Qv h1 (fun w2_ h2 h1=>?_)
 refine Qy (b:=(!(Lib.hasPrefix a0 ([117]:List UInt8)))) Z (fun c9=>?_) (fun c9=>?_)
 replace h2:=QD c9 h2
 refine Q0<|Qpm Z Z Z<|Qpl Z Z Z (Qb Z Z Z)<|Qpn Z Z Z<|Q3 ?_
 have e:=Qpj h2;subst e
 exact Qj (Qo ((-1) - x7.1)) (J1 (Qpg Z) (hA Z) Qpv Z (Ca hv0 (Qpu Z)) Z Z Z (Qql Z Z (Qql Z Z (Qqk Z (Qqm Z)))) Z Z) h1
 replace h2:=QE c9 h2
 refine QX ?_
 have e:=Qpj h2;subst e
 exact Qj x7.1 (J1 (Qpg Z) (hA Z) Qpv Z (Ca hv0 (Qpu Z)) Z Z Z (Qql Z Z (Qql Z Z (Qqk Z (Qqm Z)))) Z Z) h1
 intro v8 h1
 refine Q5<|Q4<|Q0<|Qpn Z Z Z<|Q3<|Q5<|Q4<|Q0<|Qpm Z Z Z ?_
 refine Qv h1 (fun x10 hx10 h1=>?_)
 refine Qk Z Z (Qpu Z) (Qn (hp1':=[(0,.cells 188 [ZR (x7.2.1.dropWhile (·==32)),Qqc x7.2.2,Qqb a2,.ptr 1 0]),(1,.cells 212 [.mp 2,Qqb a3]),(2,.mp (Jw a4.1) a4.2)]) (tk1':=[]) (hpF:=[(3,.cells 82 [Qqb 0,Qqa])]) (tkF:=[]) (res2:=Qh []) (nx2:=4) [0,1,2] Z Z (ZD x7.2.1 x7.2.2 a2 a3 a4 x10 hx10) Z Z (Qpq Z Z (Qpq Z Z (Qpp Z Qpo))) Z Z (Qq6 Z (Qq6 Z (Qq7 Z Qq5))) Qq0 (hA Z) Qpv Z Z Z Z Z (Qql Z Z (Qql Z Z (Qqk Z Qqj))) Z Z Z Z)<|Q3<|Q5<|Q4<|Q4<|Q0<|Qpm Z Z Z ?_
 refine Qv h1 (fun x11 hx11 h1=>?_)
 refine Qk Z Z (Qpu Z) (Qn (hp1':=[(0,.cells 188 [ZR x11,Qqc x7.2.2,Qqb a2,.ptr 1 0]),(1,.cells 212 [.mp 2,Qqb a3]),(2,.mp (Jw a4.1) a4.2)]) (tk1':=[]) (hpF:=[(3,.cells 82 [Qqb 0,Qqa])]) (tkF:=[]) (res2:=Qh [.one (Qqc (Lib.hasPrefix (x7.2.1.dropWhile (·==32)) ([43]:List UInt8)))]) (nx2:=4) [0,1,2] Z Z (ZC ([43]:List UInt8) (x7.2.1.dropWhile (·==32)) x7.2.2 a2 a3 a4 x11 hx11) Z Z (Qpq Z Z (Qpq Z Z (Qpp Z Qpo))) Z Z (Qq6 Z (Qq6 Z (Qq7 Z Qq5))) Qq0 (hA Z) Qpv Z Z Z Z Z (Qql Z Z (Qql Z Z (Qqk Z Qqj))) Z Z Z Z)<|Q3<|Q5 ?_
 refine Jp (fun (v12:Int×Qr7×Bool)=>⟨[(0,.v (.one (.ptr 0 0))),(2,.v (.one (.ptr 3 0))),(5,.v (.one (Qqb v8))),(6,.v (.one (Qqb v12.1)))],[(0,.cells 188 [ZR v12.2.1,Qqc v12.2.2,Qqb a2,.ptr 1 0]),(1,.cells 212 [.mp 2,Qqb a3]),(2,.mp (Jw a4.1) a4.2),(3,.cells 82 [Qqb 0,Qqa])],[],4,55,[]⟩) (fun (v12:Int×Qr7×Bool)=>(Option.bind (Option.bind (cond (decide (v8 < (-65536)))
     (some true)
     (cond (decide (7 < v8))
     (some true)
     (some (decide (v12.1 < 0))))) (fun (v15:Bool)=>cond v15
     (some (2,([]:List Qr1)))
     (cond (decide (100 < v12.1))
     (some (15,([]:List Qr1)))
     (some (0,[(v8,v12.1)]))))) (fun (y13:Int×(List Qr1))=>some (y13.1,0,y13.2,v12.2.1,v12.2.2,0,y13.2)))=some w1_) ?_ ?_
 refine Qv h1 (fun w2_ h2 h1=>?_)
 refine Qy (b:=(Lib.hasPrefix (x7.2.1.dropWhile (·==32)) ([43]:List UInt8))) Z (fun c13=>?_) (fun c13=>?_)
 replace h2:=QD c13 h2
 refine Q4<|Q0<|Qpm Z Z Z ?_
 refine Qv h2 (fun x14 hx14 h2=>?_)
 refine Qk Z Z (Qpu Z) (Qn (hp1':=[(0,.cells 188 [ZR (x11.dropWhile (·==32)),Qqc x7.2.2,Qqb a2,.ptr 1 0]),(1,.cells 212 [.mp 2,Qqb a3]),(2,.mp (Jw a4.1) a4.2)]) (tk1':=[]) (hpF:=[(3,.cells 82 [Qqb 0,Qqa])]) (tkF:=[]) (res2:=Qh []) (nx2:=4) [0,1,2] Z Z (ZD x11 x7.2.2 a2 a3 a4 x14 hx14) Z Z (Qpq Z Z (Qpq Z Z (Qpp Z Qpo))) Z Z (Qq6 Z (Qq6 Z (Qq7 Z Qq5))) Qq0 (hA Z) Qpv Z Z Z Z Z (Qql Z Z (Qql Z Z (Qqk Z Qqj))) Z Z Z Z)<|Q3<|Q5<|Q0<|Qpm Z Z Z ?_
 refine Qv h2 (fun x15 hx15 h2=>?_)
 refine Qk Z Z (Qpu Z) (Qn (hp1':=[(0,.cells 188 [ZR x15.2.1,Qqc x15.2.2,Qqb a2,.ptr 1 0]),(1,.cells 212 [.mp 2,Qqb a3]),(2,.mp (Jw a4.1) a4.2)]) (tk1':=[]) (hpF:=[(3,.cells 82 [Qqb 0,Qqa])]) (tkF:=[]) (res2:=Qh [.one (Qqb x15.1)]) (nx2:=4) [0,1,2] Z Z (Q01 (x11.dropWhile (·==32)) x7.2.2 a2 a3 a4 x15 hx15) Z Z (Qpq Z Z (Qpq Z Z (Qpp Z Qpo))) Z Z (Qq6 Z (Qq6 Z (Qq7 Z Qq5))) Qq0 (hA Z) Qpv Z Z Z Z Z (Qql Z Z (Qql Z Z (Qqk Z Qqj))) Z Z Z Z)<|Qpn Z Z Z<|Q3 ?_
 have e:=Qpj h2;subst e
 exact Qj (x15.1,x15.2.1,x15.2.2) (J1 (Qpg Z) (hA Z) Qpv Z (Ca hv0 (Qpu Z)) Z Z Z (Qql Z Z (Qql Z Z (Qqk Z (Qqm Z)))) Z Z) h1
 replace h2:=QE c13 h2
 refine QX ?_
 have e:=Qpj h2;subst e
 exact Qj (0,x11,x7.2.2) (J1 (Qpg Z) (hA Z) Qpv Z (Ca hv0 (Qpu Z)) Z Z Z (Qql Z Z (Qql Z Z (Qqk Z (Qqm Z)))) Z Z) h1
 intro v12 h1
 refine Q5<|Q0<|Qpm Z Z Z<|Qpm Z Z Z ?_
 refine Qv h1 (fun y16 h2 h1=>?_)
 have hc17:CallM Tryz.prog 178 [.one (Qqb v8),.one (Qqb v12.1)] ⟨m152f2_h1 v12 a2 a3 a4,[],4⟩ (Qh [.agg [Qqb 0,Qq9 y16.2],.one (Qqb y16.1)]) ⟨Q6k v12 a2 a3 a4 y16,[],5⟩:=by
  refine Qp ⟨[(4,.v (.one (.ptr 4 0))),(5,.v (.one (Qqb y16.1)))],Q6k v12 a2 a3 a4 y16,[],5,27,[]⟩ Z Z en_178 (Qpu Z) Z (Zr JE Z Z Z Z (Jj Z .nil)) (fun w0 M V0 Q hv2 hQ2=>?_)
  simp only [J4]
  refine Q4<|Q0<|Qk Z Z (Qpu Z) (QR Qch Z)<|Qpn Z Z Z<|Q3<|Q5<|Q4<|QF<|Q4 ?_
  refine Jp (fun (v18:Bool)=>⟨[(0,.v (.one (Qqb v8))),(1,.v (.one (Qqb v12.1))),(4,.v (.one (.ptr 4 0))),(6,.v (.one (Qqc v18)))],m152f2_h3 v12 a2 a3 a4,[],5,27,[]⟩) (fun (v18:Bool)=>(cond v18
      (some (2,([]:List Qr1)))
      (cond (decide (100 < v12.1))
      (some (15,([]:List Qr1)))
      (some (0,[(v8,v12.1)]))))=some y16) ?_ ?_
  refine Qv h2 (fun w3_ h3 h2=>?_)
  refine Q0<|Qpm Z Z Z<|Qpl Z Z Z (Qb Z Z Z)<|Qpm Z Z Z ?_
  refine QZ (d:=9) (c:=(decide (v8 < (-65536)))) Z (fun c19=>?_) (fun c19=>?_)
  replace h3:=QD c19 h3
  refine Q8 Z Z<|Q8 Z Z<|Qpl Z Z Z (Qm Z Z)<|Qpm Z Z Z<|Q8 Z Z<|Q8 Z Z<|Qpl Z Z Z (Qm Z Z)<|Qpn Z Z Z<|Q3 ?_
  have e:=Qpj h3;subst e
  exact Qj true (J1 (Qpg Z) (hA Z) Qpv Z (Ca hv2 (Qpu Z)) Z Z Z (Qql Z Z (Qql Z Z (Qqk Z (Qqm Z)))) Z Z) h2
  replace h3:=QE c19 h3
  refine Qpm Z Z Z<|Qpl Z Z Z (Qb Z Z Z)<|Qpl Z Z Z (Qz Z Z)<|Qpm Z Z Z ?_
  refine QZ (d:=13) (c:=(decide (7 < v8))) Z (fun c20=>?_) (fun c20=>?_)
  replace h3:=QD c20 h3
  refine Q8 Z Z<|Q8 Z Z<|Qpl Z Z Z (Qm Z Z)<|Qpn Z Z Z<|Q3 ?_
  have e:=Qpj h3;subst e
  exact Qj true (J1 (Qpg Z) (hA Z) Qpv Z (Ca hv2 (Qpu Z)) Z Z Z (Qql Z Z (Qql Z Z (Qqk Z (Qqm Z)))) Z Z) h2
  replace h3:=QE c20 h3
  refine Qpm Z Z Z<|Qpl Z Z Z (Qb Z Z Z)<|Qpl Z Z Z (Qz Z Z)<|Qpn Z Z Z<|Q3 ?_
  have e:=Qpj h3;subst e
  exact Qj (decide (v12.1 < 0)) (J1 (Qpg Z) (hA Z) Qpv Z (Ca hv2 (Qpu Z)) Z Z Z (Qql Z Z (Qql Z Z (Qqk Z (Qqm Z)))) Z Z) h2
  intro v18 h2
  refine Q5 ?_
  refine Qy (b:=v18) Z (fun c21=>?_) (fun c21=>?_)
  replace h2:=QD c21 h2
  refine Q4<|Q0<|Qpl Z Z Z (YF XA Z )<|QQ Z Z (Qi JE Z Z Z Z (Qpu Z) Z)<|Qpn Z Z Z<|Q3<|Q5<|QT ?_
  have e:=Qpj h2;subst e
  exact hQ2 _ _ _ (.inr Z) Z (J1 (Qpg Z) (hR Z (hR Z (hR Z (hR Z (Qq4 Z (.cons (.refl _) (.cons (.sub (.nil _)) .nil)) Qq3))))) Qpv Z (Ca hv2 (Qpu Z)) Z Z Z (Qql Z Z (Qql Z Z (Qqk Z (Qqm Z)))) Z Z)
  replace h2:=QE c21 h2
  refine Q4<|Q0<|Qpm Z Z Z<|Qpl Z Z Z (Qb Z Z Z)<|Qpn Z Z Z<|Q3<|Q5 ?_
  refine Qy (b:=(decide (100 < v12.1))) Z (fun c22=>?_) (fun c22=>?_)
  replace h2:=QD c22 h2
  refine Q4<|Q0<|Qpl Z Z Z (YF XA Z )<|QQ Z Z (Qi JE Z Z Z Z (Qpu Z) Z)<|Qpn Z Z Z<|Q3<|Q5<|QT ?_
  have e:=Qpj h2;subst e
  exact hQ2 _ _ _ (.inr Z) Z (J1 (Qpg Z) (hR Z (hR Z (hR Z (hR Z (Qq4 Z (.cons (.refl _) (.cons (.sub (.nil _)) .nil)) Qq3))))) Qpv Z (Ca hv2 (Qpu Z)) Z Z Z (Qql Z Z (Qql Z Z (Qqk Z (Qqm Z)))) Z Z)
  replace h2:=QE c22 h2
  refine QX<|Jh<|Q5<|Q4<|Q0<|Qpm Z Z Z<|Qpm Z Z Z<|Qpl Z Z Z (QK Qk3 Z Z Z Z)<|Qk Z Z (Qpu Z) (OpOK.lit1E (α:=Qr1) ((v8,v12.1)) UT Qe6 Z Z (Qpu Z) (Qpu Z) Z Z (.cons (.d _) (.cons (.d _) .nil)) Z)<|Qpl Z Z Z (Kz XA Z Z Z)<|QQ Z Z (Qi JE Z Z Z Z (Qpu Z) Z)<|Qpn Z Z Z<|Q3<|Q5 ?_
  refine QT ?_
  have e:=Qpj h2;subst e
  exact hQ2 _ _ _ (.inr Z) Z (J1 (Qpg Z) (hR Z (hR Z (hR Z (hR Z (Qq4 Z (.cons (.refl _) (.cons (.sub (.app _ _ _)) .nil)) Qq3))))) Qpv Z (Ca hv2 (Qpu Z)) Z Z Z (Qql Z Z (Qql Z Z (Qqk Z (Qqm Z)))) Z Z)
 refine Qk Z Z (Qpu Z) (KZ Z Z Z hc17 Z (hA Z) Qpv)<|Qpm Z Z Z<|Qpl Z Z Z (J8 Z Z)<|Qpl Z Z Z (J8 Z Z)<|QQ Z Z (Qi JE Z Z Z Z (Qpu Z) Z)<|Qpn Z Z Z<|Q3 ?_
 have e:=Qpj h1;subst e
 exact Qj (y16.1,0,y16.2,v12.2.1,v12.2.2,0,y16.2) (J1 (Qpg Z) (hA Z) Qpv Z (Ca hv0 (Qpu Z)) Z Z Z (Qql Z Z (Qql Z Z (Qqk Z (Qqm Z)))) Z Z) h0
 replace h1:=QE c6 h1
 refine Q0<|Qpm Z Z Z ?_
 refine Qv h1 (fun x23 hx23 h1=>?_)
 refine Qk Z Z (Qpu Z) (Qn (hp1':=[(0,.cells 188 [ZR x23.2.1,Qqc x23.2.2,Qqb a2,.ptr 1 0]),(1,.cells 212 [.mp 2,Qqb a3]),(2,.mp (Jw a4.1) a4.2)]) (tk1':=[]) (hpF:=[(3,.cells 82 [Qqb 0,Qqa])]) (tkF:=[]) (res2:=Qh [.one (Qqb x23.1)]) (nx2:=4) [0,1,2] Z Z (Q01 v2.2 a1 a2 a3 a4 x23 hx23) Z Z (Qpq Z Z (Qpq Z Z (Qpp Z Qpo))) Z Z (Qq6 Z (Qq6 Z (Qq7 Z Qq5))) Qq0 (hA Z) Qpv Z Z Z Z Z (Qql Z Z (Qql Z Z (Qqk Z Qqj))) Z Z Z Z) ?_
 refine Qv h1 (fun y24 h2 h1=>?_)
 have hc25:CallM Tryz.prog 179 [.one (Qqb x23.1)] ⟨Q6l x23 a2 a3 a4,[],4⟩ (Qh [.agg [Qqb y24.2,Qqa],.one (Qqb y24.1)]) ⟨Q6j x23 a2 a3 a4 y24,[],5⟩:=by
  refine Qp ⟨[(2,.v (.one (.ptr 4 0))),(3,.v (.one (Qqb y24.1)))],Q6j x23 a2 a3 a4 y24,[],5,14,[]⟩ Z Z en_179 (Qpu Z) Z (Zr JE Z Z Z Z (Jj Z .nil)) (fun w0 M V0 Q hv2 hQ2=>?_)
  simp only [J4]
  refine Q4<|Q0<|Qk Z Z (Qpu Z) (QR Qch Z)<|Qpn Z Z Z<|Q3<|Q5<|Q4<|QF<|Q4<|Q0<|Qpm Z Z Z<|Qpl Z Z Z (Qb Z Z Z)<|Qpn Z Z Z<|Q3 ?_
  refine Q5 ?_
  refine Qy (b:=(decide (x23.1 < 0))) Z (fun c26=>?_) (fun c26=>?_)
  replace h2:=QD c26 h2
  refine Q4<|Q0<|Qpl Z Z Z (YF XA Z )<|QQ Z Z (Qi JE Z Z Z Z (Qpu Z) Z)<|Qpn Z Z Z<|Q3<|Q5<|QT ?_
  have e:=Qpj h2;subst e
  exact hQ2 _ _ _ (.inr Z) Z (J1 (Qpg Z) (hA Z) Qpv Z (Ca hv2 (Qpu Z)) Z Z Z (Qql Z Z (Qql Z Z (Qqk Z (Qqm Z)))) Z Z)
  replace h2:=QE c26 h2
  refine Q4<|Q0<|Qpm Z Z Z<|Qpl Z Z Z (Qb Z Z Z)<|Qpn Z Z Z<|Q3<|Q5 ?_
  refine Qy (b:=(decide (100 < x23.1))) Z (fun c27=>?_) (fun c27=>?_)
  replace h2:=QD c27 h2
  refine Q4<|Q0<|Qpl Z Z Z (YF XA Z )<|QQ Z Z (Qi JE Z Z Z Z (Qpu Z) Z)<|Qpn Z Z Z<|Q3<|Q5<|QT ?_
  have e:=Qpj h2;subst e
  exact hQ2 _ _ _ (.inr Z) Z (J1 (Qpg Z) (hA Z) Qpv Z (Ca hv2 (Qpu Z)) Z Z Z (Qql Z Z (Qql Z Z (Qqk Z (Qqm Z)))) Z Z)
  replace h2:=QE c27 h2
  refine QX<|Jh<|Q5<|Q4<|Q0<|Qpm Z Z Z<|Qpl Z Z Z (Kz XA Z Z Z)<|QQ Z Z (Qi JE Z Z Z Z (Qpu Z) Z)<|Qpn Z Z Z<|Q3<|Q5<|QT ?_
  have e:=Qpj h2;subst e
  exact hQ2 _ _ _ (.inr Z) Z (J1 (Qpg Z) (hA Z) Qpv Z (Ca hv2 (Qpu Z)) Z Z Z (Qql Z Z (Qql Z Z (Qqk Z (Qqm Z)))) Z Z)
 refine Qk Z Z (Qpu Z) (KZ Z Z Z hc25 Z (hA Z) Qpv)<|Qpm Z Z Z<|Qpl Z Z Z (J8 Z Z)<|Qpl Z Z Z (J8 Z Z)<|QQ Z Z (Qi JE Z Z Z Z (Qpu Z) Z)<|Qpn Z Z Z<|Q3 ?_
 have e:=Qpj h1;subst e
 exact Qj (y24.1,y24.2,([]:List Qr1),x23.2.1,x23.2.2,y24.2,([]:List Qr1)) (J1 (Qpg Z) (hR Z (hR Z (hR Z (Qq4 Z (.cons (.refl _) (.cons (.sub (.nil _)) .nil)) (Qq4 Z (.cons (.refl _) (.cons (.sub (.nil _)) .nil)) Qq3))))) Qpv Z (Ca hv0 (Qpu Z)) Z Z Z (Qql Z Z (Qql Z Z (Qqk Z (Qqm Z)))) Z Z) h0
 intro v5 h0
 refine Q5<|Q4<|Q4<|Q0<|Qpm Z Z Z<|Qpl Z Z Z (Qe Z)<|Qpl Z Z Z (Q2 Wg Z)<|Qpl Z Z Z (Q6 GS Z Z Z)<|Qpl Z Z Z (Qb Z Z Z)<|Q3<|Q5 ?_
 refine Jp (fun (v28:Int)=>⟨[(0,.v (.one (.ptr 0 0))),(2,.v (.one (.ptr 3 0)))],[(0,.cells 188 [ZR v5.2.2.2.1,Qqc v5.2.2.2.2.1,Qqb v28,.ptr 1 0]),(1,.cells 212 [.mp 2,Qqb a3]),(2,.mp (Jw a4.1) a4.2),(3,.cells 82 [Qqb v5.2.1,Qq9 v5.2.2.1]),(4,.cells 82 [Qqb v5.2.2.2.2.2.1,Qq9 v5.2.2.2.2.2.2])],[],5,55,[]⟩) (fun (v28:Int)=>(Option.bind (Xb (⟨v5.2.1,v5.2.2.1⟩:Lvl) 0 a3 a4) fun (x29:Qt) =>
   some (v5.2.2.2.1,v5.2.2.2.2.1,v28,(max a3 (Qo ((⟨v5.2.1,v5.2.2.1⟩:Lvl).c+0))),x29))=some r) ?_ ?_
 refine Qv h0 (fun w1_ h1 h0=>?_)
 refine Qy (b:=(a2==0)) Z (fun c29=>?_) (fun c29=>?_)
 replace h1:=QD c29 h1
 refine Q0<|Qpm Z Z Z<|Qpm Z Z Z<|Qpl Z Z Z (Qe Z)<|Qpl Z Z Z (Q2 Wg Z)<|QQ Z Z (Qi GS Z Z Z Z (Qpu Z) Z)<|Q3 ?_
 have e:=Qpj h1;subst e
 exact Qj v5.1 (J1 (Qpg Z) (hA Z) Qpv Z (Ca hv0 (Qpu Z)) Z Z Z (Qql Z Z (Qql Z Z (Qqk Z (Qqm Z)))) Z Z) h0
 replace h1:=QE c29 h1
 refine QX ?_
 have e:=Qpj h1;subst e
 exact Qj a2 (J1 (Qpg Z) (hA Z) Qpv Z (Ca hv0 (Qpu Z)) Z Z Z (Qql Z Z (Qql Z Z (Qqk Z (Qqm Z)))) Z Z) h0
 intro v28 h0
 refine Q5 ?_
 refine YD [5] [] mixed (by kernel_rfl) (by kernel_rfl) (by kernel_rfl) ?_
 refine RunA.rd Z Z Z (Q9 (YE Z)) Z<|RunA.rd Z Z Z (Q9 (Qe Z)) Z<|RunA.rd Z Z Z (Q9 (Q2 Qbj Z)) Z<|RunA.rd Z Z Z (Q9 (Q6 Qka Z Z Z)) Z<|RunA.rd Z Z Z (Q9 (Jx JE Z Z Z Z)) Z ?_
 refine Qv h0 (fun x30 hx30 h0=>?_)
 refine RunA.eff Z Z Z (Qn (hp1':=[(1,.cells 212 [.mp 2,Qqb (max a3 (Qo ((⟨v5.2.1,v5.2.2.1⟩:Lvl).c+0)))]),(2,.mp (Jw x30.1) x30.2)]) (tk1':=[]) (hpF:=m152f2_h6 v5 v28) (tkF:=[]) (res2:=Qh []) (nx2:=6) [1,2] Z Z (m180f4_ok (⟨v5.2.1,v5.2.2.1⟩:Lvl) 0 a3 a4 x30 hx30) Z Z (Qpq Z Z (Qpp Z Qpo)) Z Z (Qq6 Z (Qq7 Z Qq5)) Qq0 (hA Z) Qpv Z Z Z Z Z (Qql Z Z (Qqk Z Qqj)) Z Z Z Z) Z ?_
 refine RunA.nil ⟨?ex,_,_,Z,?_⟩
 case ex=>exact trivial
 refine Xp (st':=⟨[],[(0,Q6i v5 v28),(1,.cells 212 [.mp 2,Qqb (max a3 (Qo ((⟨v5.2.1,v5.2.2.1⟩:Lvl).c+0)))]),(2,.mp (Jw x30.1) x30.2),(3,.cells 82 [Qqb v5.2.1,Qq9 v5.2.2.1]),(4,.cells 82 [Qqb v5.2.2.2.2.2.1,Qq9 v5.2.2.2.2.2.2])],[],6,55,[]⟩) (J1 Qpc (hA Z) Qpv Z (Ca hv0 (Qpu Z)) Z Z Z (Qql Z Z (Qql Z Z (Qqk Z (Qqm Z)))) Z Z) ?_
 have e:=Qpj h0;subst e
 exact hQ0 _ _ _ (.inl Z) Z (J1 Qpc (hA Z) Qpv Z (Ca hv0 (Qpu Z)) Z Z Z (Qql Z Z (Qql Z Z (Qqk Z Qqj))) Z Z)
def Q8p (a0:Qt):Option Unit :=
 some ()
theorem m182f7_ok (a0:Qt) (r:Unit) (h0:Q8p a0=some r):CallM Tryz.prog 182 [.one (.mp 0)] ⟨[(0,.mp (Jw a0.1) a0.2)],[],1⟩ (Qh [.one (.fn 209 [(1,0)])]) ⟨[(0,.mp (Jw a0.1) a0.2),(1,.cells 210 [.mp 0])],[],2⟩:=by
 unfold Q8p at h0
 refine Qp ⟨[(2,.v (.one (.fn 209 [(1,0)])))],[(0,.mp (Jw a0.1) a0.2),(1,.cells 210 [.mp 0])],[],2,4,[]⟩ Z Z en_182 (Qpu Z) Z (Jj Z .nil) (fun w0 M V0 Q hv0 hQ0=>?_)
 simp only [J4]
 refine Q4<|Q0<|Qk Z Z (Qpu Z) (JZ Z)<|Qpn Z Z Z<|Q3<|Q5<|Q4<|Q0<|Qpl Z Z Z (Xu Z)<|Qpn Z Z Z<|Q3<|Q5<|QT ?_
 have e:=Qpj h0;subst e
 exact hQ0 _ _ _ (.inr Z) Z (J1 (Qpg Z) (hA Z) Qpv Z (Ca hv0 (Qpu Z)) Z Z Z (Qqk Z (Qqm Z)) Z Z)
def Q2c (a0:Qr1) (a1:Int) (a2:List Qr1):Option Unit :=
 some ()
theorem m189f12_ok (a0:Qr1) (a1:Int) (a2:List Qr1) (r:Unit) (h0:Q2c a0 a1 a2=some r):CallM Tryz.prog 189 [.agg (Qqf a0),.one (.ptr 0 0)] ⟨[(0,.cells 82 [Qqb a1,Qqd 1 a2])],[(1,some ⟨142,2,(Enc.encL a2).length,[]⟩)],2⟩ (Qh [.one (Qqc (decide (a1≤a0.2)))]) ⟨[(0,.cells 82 [Qqb a1,Qqd 1 a2])],[(1,some ⟨142,2,(Enc.encL a2).length,[]⟩)],3⟩:=by
 unfold Q2c at h0
 refine Qp ⟨[(3,.v (.one (Qqc (decide (a1≤a0.2)))))],[(0,.cells 82 [Qqb a1,Qqd 1 a2])],[(1,some ⟨142,2,(Enc.encL a2).length,[]⟩)],3,9,[]⟩ Z Z Qjp (Qpu Z) Z (Jj Z .nil) (fun w0 M V0 Q hv0 hQ0=>?_)
 simp only [J4]
 refine Q4<|Q0<|Qk Z Z (Qpu Z) (JZ Z)<|Qpn Z Z Z<|Q3<|Q5<|Q4<|Q0<|Qpl Z Z Z (Q2 Q49 Z)<|Qpl Z Z Z (Q6 JY Z Z Z)<|Qpl Z Z Z (Q2 Q2g Z)<|Qpl Z Z Z (Q6 JY Z Z Z)<|Qpl Z Z Z (Qb Z Z Z)<|Qpn Z Z Z ?_
 refine Q3<|Q5<|QT ?_
 have e:=Qpj h0;subst e
 exact hQ0 _ _ _ (.inr Z) Z (Qpi (Ca hv0 (Qpu Z)) Z Z Z Z Z)
def Yr (a0:List Qr1) (a1:Int) (a2:List Qr1) (s1:Int):Option (LO Int (Unit⊕Int)) :=
 cond (decide (s1 < (a0.length:Int)))
   (Option.bind (J0 a0 s1) fun (x3:Qr1) =>
 Option.bind (Q2c x3 a1 a2) fun (x4:Unit) =>
 cond (decide (a1≤x3.2))
   (some (.done (.inr s1)))
   (some (.next (Qo (s1+1)))))
   (some (.done (.inl ())))
def Q2b (a0:List Qr1) (a1:Int) (a2:List Qr1):Option Int :=
 Option.bind (Qa (Yr a0 a1 a2) Qd 0) (Sum.elim (fun (o1:Unit)=>some (-1)) (fun o=>some o))
theorem m211f11_ok (a0:List Qr1) (a1:Int) (a2:List Qr1) (r:Int) (h0:Q2b a0 a1 a2=some r):CallM Tryz.prog 211 [.one (Qqd 0 a0),.one (.fn 189 [(1,0)])] ⟨[(1,.cells 82 [Qqb a1,Qqd 0 a2])],[(0,some ⟨142,2,(Enc.encL a2).length,[]⟩)],2⟩ (Qh [.one (Qqb r)]) ⟨[(1,.cells 82 [Qqb a1,Qqd 0 a2])],[(0,some ⟨142,2,(Enc.encL a2).length,[]⟩)],2⟩:=by
 unfold Q2b at h0
 refine Qp ⟨[(4,.v (.one (Qqb r)))],[(1,.cells 82 [Qqb a1,Qqd 0 a2])],[(0,some ⟨142,2,(Enc.encL a2).length,[]⟩)],2,19,[]⟩ Z Z Qjo (Qpu Z) Z (Jj Z .nil) (fun w0 M V0 Q hv0 hQ0=>?_)
 simp only [J4]
 refine Q4<|Q0<|Qpn Z Z Z<|Q3<|Q5<|Q4<|Q4<|Q0<|Qpm Z Z Z<|Qpl Z Z Z (JG (α:=Qr1) UT Z (.app _ _))<|Qpm Z Z Z<|Q3<|Q5<|QF ?_
 refine KX 0 (fun (o1:Unit)=>⟨[],[(1,.cells 82 [Qqb a1,Qqd 0 a2])],[(0,some ⟨142,2,(Enc.encL a2).length,[]⟩)],2,19,[]⟩) (fun (o1:Unit)=>(some (-1))=some r) ?_ ?_
 refine Qv h0 (fun o2 hl1 h0=>?_)
 refine KW (Yr a0 a1 a2) (fun s1=>⟨[(0,.v (.one (Qqd 0 a0))),(1,.v (.one (.fn 189 [(1,0)]))),(7,.v (.one (Qqb (a0.length:Int)))),(8,.v (.one (Qqb s1)))],[(1,.cells 82 [Qqb a1,Qqd 0 a2])],[(0,some ⟨142,2,(Enc.encL a2).length,[]⟩)],2,19,[]⟩) 0 o2 (Qpi (Ca hv0 (Qpu Z)) Z Z Z Z Z) hl1 (fun s1 n1 oo1 h1 ho1=>?_)
 unfold Yr at h1
 refine Q4<|Q0<|Qpl Z Z Z (Qb Z Z Z)<|Q3<|Q5<|Q4 ?_
 refine Qy (b:=(decide (s1 < (a0.length:Int)))) Z (fun c3=>?_) (fun c3=>?_)
 replace h1:=QD c3 h1
 refine QX<|Q5<|Q4<|QF<|Q4<|Q0<|Qpm Z Z Z<|Qpn Z Z Z<|Q3<|Q5<|Q4<|Q0<|Qpm Z Z Z<|Qpm Z Z Z ?_
 refine Qpm Z Z Z ?_
 refine Qv h1 (fun x4 hx4 h1=>?_)
 refine Qpl Z Z Z (GX (α:=Qr1) UT Z (.app _ _) Z hx4)<|Qpl Z Z Z (Kk (x4:Qr1) Q53 Z) ?_
 refine Qv h1 (fun x5 hx5 h1=>?_)
 refine Qk Z Z (Qpu Z) (Qn (hp1':=[(1,.cells 82 [Qqb a1,Qqd 0 a2])]) (tk1':=[(0,some ⟨142,2,(Enc.encL a2).length,[]⟩)]) (hpF:=[]) (tkF:=[]) (res2:=Qh [.one (Qqc (decide (a1≤x4.2)))]) (nx2:=3) [1,0] Z Z (m189f12_ok x4 a1 a2 x5 hx5) Z Z (Qpq Z Z Qpo) Z Z (Qq6 Z Qq5) (Qq1 Z Qq0) Qq3 Qpv Z Z Z Z Z (Qqm Z) Z Z Z Z)<|Q3<|Q5 ?_
 refine Qy (b:=(decide (a1≤x4.2))) Z (fun c6=>?_) (fun c6=>?_)
 replace h1:=QD c6 h1
 refine Q4<|Q0<|Qpm Z Z Z<|Qpn Z Z Z<|Q3<|Q5<|QT ?_
 have e:=Qpj h1;subst e
 have e_:_=_:=ho1
 subst e_
 try dsimp only [Sum.elim_inl,Sum.elim_inr] at h0
 have e:=Qpj h0;subst e
 exact hQ0 _ _ _ (.inr Z) Z (Qpi (Ca hv0 (Qpu Z)) Z Z Z Z Z)
 replace h1:=QE c6 h1
 refine QX<|Jh<|Q5<|Q0<|Qpl Z Z Z (Qb Z Z Z)<|Qpm Z Z Z<|Q3 ?_
 have e:=Qpj h1;subst e
 refine KU (Qo (s1+1)) (Qpi (Ca hv0 (Qpu Z)) Z Z Z Z Z) ho1
 replace h1:=QE c3 h1
 refine Gh<|JN<|JN ?_
 have e:=Qpj h1;subst e
 have e_:_=_:=ho1
 subst e_
 exact KV () (Qpi (Ca hv0 (Qpu Z)) Z Z Z Z Z) h0
 intro o1 h0
 refine Z4<|Q5<|Q4<|Q0<|Qpn Z Z Z<|Q3<|Q5<|QT ?_
 have e:=Qpj h0;subst e
 exact hQ0 _ _ _ (.inr Z) Z (Qpi (Ca hv0 (Qpu Z)) Z Z Z Z Z)
def Q2d (a0:List Qr1) (a1:Int) (a2:List Qr1):Option Bool :=
 Option.bind (Q2b a0 a1 a2) fun (x1:Int) =>
 some (decide (0≤x1))
theorem m188f10_ok (a0:List Qr1) (a1:Int) (a2:List Qr1) (r:Bool) (h0:Q2d a0 a1 a2=some r):CallM Tryz.prog 188 [.one (Qqd 0 a0),.one (.fn 189 [(1,0)])] ⟨[(1,.cells 82 [Qqb a1,Qqd 0 a2])],[(0,some ⟨142,2,(Enc.encL a2).length,[]⟩)],2⟩ (Qh [.one (Qqc r)]) ⟨[(1,.cells 82 [Qqb a1,Qqd 0 a2])],[(0,some ⟨142,2,(Enc.encL a2).length,[]⟩)],2⟩:=by
 unfold Q2d at h0
 refine Qp ⟨[(4,.v (.one (Qqc r)))],[(1,.cells 82 [Qqb a1,Qqd 0 a2])],[(0,some ⟨142,2,(Enc.encL a2).length,[]⟩)],2,9,[]⟩ Z Z Qjq (Qpu Z) Z (Jj Z .nil) (fun w0 M V0 Q hv0 hQ0=>?_)
 simp only [J4]
 refine Q4<|Q0<|Qpn Z Z Z<|Q3<|Q5<|Q4<|Q0<|Qpm Z Z Z<|Qpm Z Z Z ?_
 refine Qv h0 (fun x1 hx1 h0=>?_)
 refine Qk Z Z (Qpu Z) (Qn (hp1':=[(1,.cells 82 [Qqb a1,Qqd 0 a2])]) (tk1':=[(0,some ⟨142,2,(Enc.encL a2).length,[]⟩)]) (hpF:=[]) (tkF:=[]) (res2:=Qh [.one (Qqb x1)]) (nx2:=2) [0,1] Z Z (m211f11_ok a0 a1 a2 x1 hx1) Z Z (Qpq Z Z Qpo) Z Z (Qq6 Z Qq5) (Qq1 Z Qq0) Qq3 Qpv Z Z Z Z Z (Qqm Z) Z Z Z Z)<|Qpl Z Z Z (Qb Z Z Z)<|Qpn Z Z Z<|Q3<|Q5<|QT ?_
 have e:=Qpj h0;subst e
 exact hQ0 _ _ _ (.inr Z) Z (Qpi (Ca hv0 (Qpu Z)) Z Z Z Z Z)
def Q3n (a0:Int) (a1:List Qr1):Option Bool :=
 Option.bind (Q2d a1 a0 a1) fun (x1:Bool) =>
 some x1
theorem m158f9_ok (a0:Int) (a1:List Qr1) (r:Bool) (h0:Q3n a0 a1=some r):CallM Tryz.prog 158 [.agg [Qqb a0,Qqd 0 a1]] ⟨[],[(0,some ⟨142,2,(Enc.encL a1).length,[]⟩)],1⟩ (Qh [.one (Qqc r)]) ⟨[],[(0,some ⟨142,2,(Enc.encL a1).length,[]⟩)],2⟩:=by
 unfold Q3n at h0
 refine Qp ⟨[(2,.v (.one (Qqc r)))],[],[(0,some ⟨142,2,(Enc.encL a1).length,[]⟩)],2,7,[]⟩ Z Z Qjr (Qpu Z) Z (Jj Z .nil) (fun w0 M V0 Q hv0 hQ0=>?_)
 simp only [J4]
 refine Q4<|Q0<|Qk Z Z (Qpu Z) (JZ Z)<|Qpn Z Z Z<|Q3<|Q5<|Q4<|Q0<|Qpl Z Z Z (Q2 Dm Z)<|Qpl Z Z Z (Q6 Qc7 Z Z Z)<|Qpl Z Z Z (Xu Z) ?_
 refine Qv h0 (fun x1 hx1 h0=>?_)
 refine Qk Z Z (Qpu Z) (Qn (hp1':=[(1,.cells 82 [Qqb a0,Qqd 0 a1])]) (tk1':=[(0,some ⟨142,2,(Enc.encL a1).length,[]⟩)]) (hpF:=[]) (tkF:=[]) (res2:=Qh [.one (Qqc x1)]) (nx2:=2) [0,1] Z Z (m188f10_ok a1 a0 a1 x1 hx1) Z Z (Qpq Z Z Qpo) Z Z (Qq6 Z Qq5) (Qq1 Z Qq0) Qq3 Qpv Z Z Z Z Z (Qqm Z) Z Z Z Z)<|Qpn Z Z Z<|Q3<|Q5<|QT ?_
 have e:=Qpj h0;subst e
 exact hQ0 _ _ _ (.inr Z) Z (Qpi (Ca hv0 (Qpu Z)) Z Z Z Z Z)
def ZB (a1:List Qr1) (s1:Int):Option (LO Int (Unit⊕((Int×Int×(List Qr1))))) :=
 cond (decide (s1 < (a1.length:Int)))
   (Option.bind (J0 a1 s1) fun (x3:Qr1) =>
 cond (decide (100 < x3.2))
   (some (.done (.inr (15,0,([]:List Qr1)))))
   (some (.next (Qo (s1+1)))))
   (some (.done (.inl ())))
def Q00 (a0:Int) (a1:List Qr1):Option ((Int×Int×(List Qr1))) :=
 Option.bind (Qa (ZB a1) Qd 0) (Sum.elim (fun (o1:Unit)=>cond (decide (100 < a0))
   (some (15,0,([]:List Qr1)))
   (Option.bind (Q3n a0 a1) fun (x3:Bool) =>
 cond x3
   (some (0,0,a1))
   (some (0,a0,a1)))) (fun o=>some o))
theorem m183f8_ok (a0:Int) (a1:List Qr1) (r:(Int×Int×(List Qr1))) (h0:Q00 a0 a1=some r):CallM Tryz.prog 183 [.agg [Qqb a0,Qqd 0 a1]] ⟨[],[(0,some ⟨142,2,(Enc.encL a1).length,[]⟩)],1⟩ (Qh [.agg [Qqb r.2.1,Qq9 r.2.2],.one (Qqb r.1)]) ⟨[(2,.cells 82 [Qqb r.2.1,Qq9 r.2.2])],[(0,some ⟨142,2,(Enc.encL a1).length,[]⟩)],3⟩:=by
 unfold Q00 at h0
 refine Qp ⟨[(2,.v (.one (.ptr 2 0))),(3,.v (.one (Qqb r.1)))],[(2,.cells 82 [Qqb r.2.1,Qq9 r.2.2])],[(0,some ⟨142,2,(Enc.encL a1).length,[]⟩)],3,26,[]⟩ Z Z en_183 (Qpu Z) Z (Zr JE Z Z Z Z (Jj Z .nil)) (fun w0 M V0 Q hv0 hQ0=>?_)
 simp only [J4]
 refine Q4<|Q0<|Qk Z Z (Qpu Z) (JZ Z)<|Qk Z Z (Qpu Z) (QR Qch Z)<|Qpn Z Z Z<|Q3<|Q5<|Q4<|Q4<|Q0<|Qpl Z Z Z (Q2 Dm Z)<|Qpl Z Z Z (Q6 Qc7 Z Z Z)<|Qpl Z Z Z (JG (α:=Qr1) UT Z (.app _ _))<|Qpm Z Z Z ?_
 refine Q3<|Q5<|QF ?_
 refine KX 0 (fun (o1:Unit)=>⟨[(1,.v (.one (.ptr 1 0))),(2,.v (.one (.ptr 2 0)))],[(1,.cells 82 [Qqb a0,Qqd 0 a1]),(2,.cells 82 [Qqb 0,Qqa])],[(0,some ⟨142,2,(Enc.encL a1).length,[]⟩)],3,26,[]⟩) (fun (o1:Unit)=>(cond (decide (100 < a0))
     (some (15,0,([]:List Qr1)))
     (Option.bind (Q3n a0 a1) fun (x3:Bool) =>
   cond x3
     (some (0,0,a1))
     (some (0,a0,a1))))=some r) ?_ ?_
 refine Qv h0 (fun o2 hl1 h0=>?_)
 refine KW (ZB a1) (fun s1=>⟨[(1,.v (.one (.ptr 1 0))),(2,.v (.one (.ptr 2 0))),(7,.v (.one (Qqd 0 a1))),(8,.v (.one (Qqb (a1.length:Int)))),(9,.v (.one (Qqb s1)))],[(1,.cells 82 [Qqb a0,Qqd 0 a1]),(2,.cells 82 [Qqb 0,Qqa])],[(0,some ⟨142,2,(Enc.encL a1).length,[]⟩)],3,26,[]⟩) 0 o2 (Qpi (Ca hv0 (Qpu Z)) Z Z Z Z Z) hl1 (fun s1 n1 oo1 h1 ho1=>?_)
 unfold ZB at h1
 refine Q4<|Q0<|Qpl Z Z Z (Qb Z Z Z)<|Q3<|Q5<|Q4 ?_
 refine Qy (b:=(decide (s1 < (a1.length:Int)))) Z (fun c3=>?_) (fun c3=>?_)
 replace h1:=QD c3 h1
 refine QX<|Q5<|Q4<|QF<|Q4<|Q0 ?_
 refine Qv h1 (fun x4 hx4 h1=>?_)
 refine Qpl Z Z Z (GX (α:=Qr1) UT Z (.app _ _) Z hx4)<|Qpl Z Z Z (Kk (x4:Qr1) Q53 Z)<|Qk Z Z (Qpu Z) (QR Qe6 Z)<|QQ Z Z (Zs (x4:Qr1) Q53 Z Z Z Z Z)<|Q3<|Q5<|Q4<|Q0<|Qpl Z Z Z (Q2 Q49 Z)<|Qpl Z Z Z (Q6 JY Z Z Z)<|Qpl Z Z Z (Qb Z Z Z)<|Q3<|Q5 ?_
 refine Qy (b:=(decide (100 < x4.2))) Z (fun c5=>?_) (fun c5=>?_)
 replace h1:=QD c5 h1
 refine Q4<|Q0<|Qpl Z Z Z (YF XA Z )<|QQ Z Z (Qi JE Z Z Z Z (Qpu Z) Z)<|Qpn Z Z Z<|Q3<|Q5<|QT ?_
 have e:=Qpj h1;subst e
 have e_:_=_:=ho1
 subst e_
 try dsimp only [Sum.elim_inl,Sum.elim_inr] at h0
 have e:=Qpj h0;subst e
 exact hQ0 _ _ _ (.inr Z) Z (J1 (Qpg Z) (Qq4 Z (.cons (.refl _) (.cons (.sub (.nil _)) .nil)) Qq3) (Qpw Z) Z (Ca hv0 (Qpu Z)) Z Z Z (Qqm Z) Z Z)
 replace h1:=QE c5 h1
 refine QX<|Jh<|Q5<|Q0<|Qpl Z Z Z (Qb Z Z Z)<|Qpm Z Z Z<|Q3 ?_
 have e:=Qpj h1;subst e
 refine KU (Qo (s1+1)) (Qpi (Ca hv0 (Qpu Z)) Z Z Z Z Z) ho1
 replace h1:=QE c3 h1
 refine Gh<|JN<|JN ?_
 have e:=Qpj h1;subst e
 have e_:_=_:=ho1
 subst e_
 exact KV () (Qpi (Ca hv0 (Qpu Z)) Z Z Z Z Z) h0
 intro o1 h0
 refine Z4<|Q5<|Q4<|Q4<|Q0<|Qpl Z Z Z (Q2 Q2g Z)<|Qpl Z Z Z (Q6 JY Z Z Z)<|Qpl Z Z Z (Qb Z Z Z)<|Q3<|Q5 ?_
 refine Qy (b:=(decide (100 < a0))) Z (fun c6=>?_) (fun c6=>?_)
 replace h0:=QD c6 h0
 refine Q4<|Q0<|Qpl Z Z Z (YF XA Z )<|QQ Z Z (Qi JE Z Z Z Z (Qpu Z) Z)<|Qpn Z Z Z<|Q3<|Q5<|QT ?_
 have e:=Qpj h0;subst e
 exact hQ0 _ _ _ (.inr Z) Z (J1 (Qpg Z) (Qq4 Z (.cons (.refl _) (.cons (.sub (.nil _)) .nil)) Qq3) (Qpw Z) Z (Ca hv0 (Qpu Z)) Z Z Z (Qqm Z) Z Z)
 replace h0:=QE c6 h0
 refine QX<|Q5<|Q4<|Q4<|Q0<|Qpl Z Z Z (Jx JE Z Z Z Z) ?_
 refine Qv h0 (fun x7 hx7 h0=>?_)
 refine Qk Z Z (Qpu Z) (Qn (hp1':=[]) (tk1':=[(0,some ⟨142,2,(Enc.encL a1).length,[]⟩)]) (hpF:=[(1,.cells 82 [Qqb a0,Qqd 0 a1]),(2,.cells 82 [Qqb 0,Qqa])]) (tkF:=[]) (res2:=Qh [.one (Qqc x7)]) (nx2:=4) [0] Z Z (m158f9_ok a0 a1 x7 hx7) Z Z Qpo Z Z Qq5 (Qq1 Z Qq0) (hA Z) Qpv Z Z Z Z Z Qqj Z Z Z Z)<|Q3<|Q5 ?_
 refine Qy (b:=x7) Z (fun c8=>?_) (fun c8=>?_)
 replace h0:=QD c8 h0
 refine Q0<|Qpl Z Z Z (Q2 Q2g Z)<|QQ Z Z (Qi JY Z Z Z Z (Qpu Z) Z)<|Q3<|Q5<|Q4<|Q0<|Qpl Z Z Z (Jx JE Z Z Z Z)<|QQ Z Z (Qi JE Z Z Z Z (Qpu Z) Z)<|Qpn Z Z Z<|Q3<|Q5<|QT ?_
 have e:=Qpj h0;subst e
 exact hQ0 _ _ _ (.inr Z) Z (J1 (Qpg Z) (Qq4 Z (.cons (.refl _) (.cons (.sub (.app _ _ _)) .nil)) Qq3) (Qpw Z) Z (Ca hv0 (Qpu Z)) Z Z Z (Qqm Z) Z Z)
 replace h0:=QE c8 h0
 refine QX<|Q5<|Q4<|Q0<|Qpl Z Z Z (Jx JE Z Z Z Z)<|QQ Z Z (Qi JE Z Z Z Z (Qpu Z) Z)<|Qpn Z Z Z<|Q3<|Q5<|QT ?_
 have e:=Qpj h0;subst e
 exact hQ0 _ _ _ (.inr Z) Z (J1 (Qpg Z) (Qq4 Z (.cons (.refl _) (.cons (.sub (.app _ _ _)) .nil)) Qq3) (Qpw Z) Z (Ca hv0 (Qpu Z)) Z Z Z (Qqm Z) Z Z)
def Ks (a1:Qt) (s1:Int×(List Qr1)):Option (LO (Int×(List Qr1)) (((List Qr1)))) :=
 cond (decide (s1.1 < ((JC a1).length:Int)))
   (Option.bind (J0 (JC a1) s1.1) fun (x5:Int) =>
 Q7 (Nat.ble (s1.2.length+([(x5,(YI a1 x5))]).length) 1000000000)
 (some (.next ((Qo (s1.1+1)),(s1.2++([(x5,(YI a1 x5))]))))))
   (some (.done s1.2))
abbrev m153f6_h0 (p0_:Int):List (Nat×HB) :=
 [(0,.cells 212 [.mp 1,Qqb p0_]),(2,.cells 82 [Qqb 0,Qqa]),(3,.cells 82 [Qqb p0_,Qqa])]
abbrev m153f6_h1 (p0_:Int) (p1_:Int×(List Qr1)) (p2_:Int) (p3_:Qt):HB :=
 .cells 82 [Qqb p0_,Qqd 5 ((p1_.2++([(p2_,(YI p3_ p2_))])):List Qr1)]
abbrev m153f6_h2 (p0_:Int) (p1_:Qt) (p2_:Int×(List Qr1)) (p3_:Int):List (Nat×HB) :=
 [(0,.cells 212 [.mp 1,Qqb p0_]),(1,.mp (Jw p1_.1) p1_.2),(2,.cells 82 [Qqb 0,Qqa]),(3,m153f6_h1 p0_ p2_ p3_ p1_),(4,.cells 210 [.mp 1])]
abbrev m153f6_h3 (p0_:Int) (p1_:Qt) (p2_:(List Qr1)):List (Nat×HB) :=
 [(0,.cells 212 [.mp 1,Qqb p0_]),(1,.mp (Jw p1_.1) p1_.2),(2,.cells 82 [Qqb 0,Qqa]),(3,.cells 82 [Qqb p0_,Qqd 5 p2_]),(4,.cells 210 [.mp 1])]
abbrev Q6f (p0_:Int) (p1_:Qt) (p2_:(Int×Int×(List Qr1))):List (Nat×HB) :=
 [(0,.cells 212 [.mp 1,Qqb p0_]),(1,.mp (Jw p1_.1) p1_.2),(2,.cells 82 [Qqb p2_.2.1,Qq9 p2_.2.2])]
def XZ (a0:Int) (a1:Qt):Option ((Int×Int×(List Qr1))) :=
 Option.bind (Q8p a1) fun (x1:Unit) =>
 Q7 (Q5k a1)
 (Option.bind (Qa (Ks a1) Qd (0,([]:List Qr1))) (fun (o3:(List Qr1))=>Option.bind (Q00 a0 o3) fun (x4:(Int×Int×(List Qr1))) =>
 some (x4.1,x4.2.1,x4.2.2)))
theorem m153f6_ok (a0:Int) (a1:Qt) (r:(Int×Int×(List Qr1))) (h0:XZ a0 a1=some r):CallM Tryz.prog 153 [.one (.ptr 0 0)] ⟨[(0,.cells 212 [.mp 1,Qqb a0]),(1,.mp (Jw a1.1) a1.2)],[],2⟩ (Qh [.agg [Qqb r.2.1,Qq9 r.2.2],.one (Qqb r.1)]) ⟨Q6f a0 a1 r,[],8⟩:=by
 unfold XZ at h0
 refine Qp ⟨[(2,.v (.one (.ptr 2 0))),(3,.v (.one (Qqb r.1)))],Q6f a0 a1 r,[],8,41,[]⟩ Z Z en_153 (Qpu Z) Z (Zr JE Z Z Z Z (Jj Z .nil)) (fun w0 M V0 Q hv0 hQ0=>?_)
 simp only [J4]
 refine Q4<|Q0<|Qk Z Z (Qpu Z) (QR Qch Z)<|Qpn Z Z Z<|Q3<|Q5<|Q4<|Q0<|Qpm Z Z Z<|Qpl Z Z Z (Qe Z)<|Qpl Z Z Z (Q2 Q47 Z)<|Qpl Z Z Z (Q6 JY Z Z Z)<|Qpl Z Z Z (Kz XA Z Z Z)<|Qk Z Z (Qpu Z) (QR Qch Z) ?_
 refine QQ Z Z (Qi JE Z Z Z Z (Qpu Z) Z)<|Q3<|Q5<|Q4<|Q4<|Q0<|Qpm Z Z Z<|Qpl Z Z Z (Qe Z)<|Qpl Z Z Z (Q2 Q48 Z)<|Qpl Z Z Z (Q6 Qe1 Z Z Z) ?_
 refine Qv h0 (fun x1 hx1 h0=>?_)
 refine Qk Z Z (Qpu Z) (Qn (hp1':=[(1,.mp (Jw a1.1) a1.2),(4,.cells 210 [.mp 1])]) (tk1':=[]) (hpF:=m153f6_h0 a0) (tkF:=[]) (res2:=Qh [.one (.fn 209 [(4,0)])]) (nx2:=5) [1] Z Z (m182f7_ok a1 x1 hx1) Z Z (Qpp Z (Qpq Z Z Qpo)) Z Z (Qq7 Z Qq5) Qq0 (hA Z) Qpv Z Z Z Z Z (Qqk Z Qqj) Z Z Z Z) ?_
 refine Uz h0 (fun Qq8 h0=>?_)
 refine Qk Z Z (Qpu Z) (OpOK.sortedKeys Z Z Z Z Qq8)<|Qpl Z Z Z (JG (α:=Int) Qhv Z (.d _))<|Qpm Z Z Z<|Q3<|Q5<|QF ?_
 refine KX 0 (fun (o3:(List Qr1))=>⟨[(2,.v (.one (.ptr 2 0))),(4,.v (.one (.ptr 3 0)))],[(0,.cells 212 [.mp 1,Qqb a0]),(1,.mp (Jw a1.1) a1.2),(2,.cells 82 [Qqb 0,Qqa]),(3,.cells 82 [Qqb a0,Qqd 5 o3]),(4,.cells 210 [.mp 1])],[(5,some ⟨142,2,(Enc.encL o3).length,[]⟩)],6,41,[]⟩) (fun (o3:(List Qr1))=>(Option.bind (Q00 a0 o3) fun (x4:(Int×Int×(List Qr1))) =>
   some (x4.1,x4.2.1,x4.2.2))=some r) ?_ ?_
 refine XC.adoptC (i:=3) (off:=1) 142 2 Z Z ?_
 refine Qv h0 (fun o4 hl1 h0=>?_)
 refine KW (Ks a1) (fun s1=>⟨[(0,.v (.one (.ptr 0 0))),(2,.v (.one (.ptr 2 0))),(4,.v (.one (.ptr 3 0))),(17,.v (.one (Qq9 ((JC a1):List Int)))),(18,.v (.one (Qqb ((JC a1).length:Int)))),(19,.v (.one (Qqb s1.1)))],[(0,.cells 212 [.mp 1,Qqb a0]),(1,.mp (Jw a1.1) a1.2),(2,.cells 82 [Qqb 0,Qqa]),(3,.cells 82 [Qqb a0,Qqd 5 s1.2]),(4,.cells 210 [.mp 1])],[(5,some ⟨142,2,(Enc.encL s1.2).length,[]⟩)],6,41,[]⟩) (0,([]:List Qr1)) o4 (J1 (Qpg Z) (hA Z) (Qpw Z) Z (Ca hv0 (Qpu Z)) Z Z Z (Qql Z Z (Qqk Z (Qqm Z))) Z Z) hl1 (fun s1 n1 oo1 h1 ho1=>?_)
 unfold Ks at h1
 refine Q4<|Q0<|Qpl Z Z Z (Qb Z Z Z)<|Q3<|Q5<|Q4 ?_
 refine Qy (b:=(decide (s1.1 < ((JC a1).length:Int)))) Z (fun c5=>?_) (fun c5=>?_)
 replace h1:=QD c5 h1
 refine QX<|Q5<|Q4<|QF<|Q4<|Q0 ?_
 refine Qv h1 (fun x6 hx6 h1=>?_)
 refine Qpl Z Z Z (GX (α:=Int) Qhv Z (.d _) Z hx6)<|Qpl Z Z Z (Q56 JY Z Z)<|Qpn Z Z Z<|Q3<|Q5 ?_
 refine YD [11,13] [] mixed (by kernel_rfl) (by kernel_rfl) (by kernel_rfl) ?_
 refine RunA.rd Z Z Z (Q9 (Q2 Dm Z)) Z<|RunA.rd Z Z Z (Q9 (Q6 Qc7 Z Z Z)) Z<|RunA.rd Z Z Z (Q9 (YE Z)) Z<|RunA.rd Z Z Z (Q9 (YE Z)) Z<|RunA.rd Z Z Z (Q9 (Qe Z)) Z<|RunA.rd Z Z Z (Q9 (Q2 Q48 Z)) Z<|RunA.rd Z Z Z (Q9 (Q6 Qe1 Z Z Z)) Z<|RunA.rd Z Z Z (Q9 (YE Z)) Z<|RunA.rd Z Z Z (Q9 (RO.lookupF Qcx Z Z Z)) Z<|RunA.rd Z Z Z (Q9 (QK Qk3 Z Z Z Z)) Z<|RunA.rd Z Z Z (OpOK.data1E (α:=Qr1) ((x6,(YI a1 x6))) UT Qe6 Z Z (Qpu Z) Z Z (.cons (.d _) (.cons (.d _) .nil)) Z) Z ?_
 refine Uz h1 (fun g7 h1=>?_)
 refine RunA.eff Z Z Z (DF (α:=Qr1) UT el_142 Z Z Z Z Z (.d _) g7) Z<|RunA.rd Z Z Z (Q9 (Q2 Dm Z)) Z<|RunA.eff Z Z Z (Qi Qc7 Z Z Z Z (Qpu Z) Z) Z ?_
 refine RunA.nil ⟨?ex,_,_,Z,?_⟩
 case ex=>exact trivial
 refine Xp (st':=⟨[(0,.v (.one (.ptr 0 0))),(2,.v (.one (.ptr 2 0))),(4,.v (.one (.ptr 3 0))),(17,.v (.one (Qq9 ((JC a1):List Int)))),(18,.v (.one (Qqb ((JC a1).length:Int)))),(19,.v (.one (Qqb s1.1)))],m153f6_h2 a0 a1 s1 x6,[(5,some ⟨142,2,(Enc.encL ((s1.2++([(x6,(YI a1 x6))])):List Qr1)).length,[]⟩)],6,41,[]⟩) (J1 (Qpg Z) (hA Z) (Qpw Z) Z (Ca hv0 (Qpu Z)) Z Z Z (Qql Z Z (Qqk Z (Qqm Z))) Z Z)<|Jh<|Q5<|Q0<|Qpl Z Z Z (Qb Z Z Z)<|Qpm Z Z Z<|Q3 ?_
 have e:=Qpj h1;subst e
 refine KU ((Qo (s1.1+1)),(s1.2++([(x6,(YI a1 x6))]))) (J1 (Qpg Z) (hA Z) (Qpw Z) Z (Ca hv0 (Qpu Z)) Z Z Z (Qql Z Z (Qqk Z (Qqm Z))) Z Z) ho1
 replace h1:=QE c5 h1
 refine Gh<|JN<|JN ?_
 have e:=Qpj h1;subst e
 have e_:_=_:=ho1
 subst e_
 exact KV s1.2 (J1 (Qpg Z) (hA Z) (Qpw Z) Z (Ca hv0 (Qpu Z)) Z Z Z (Qql Z Z (Qqk Z (Qqm Z))) Z Z) h0
 intro o3 h0
 refine Z4<|Q5<|Q4<|Q0<|Qpl Z Z Z (Jx JE Z Z Z Z) ?_
 refine Qv h0 (fun x8 hx8 h0=>?_)
 refine Qk Z Z (Qpu Z) (Qn (hp1':=[(7,.cells 82 [Qqb x8.2.1,Qq9 x8.2.2])]) (tk1':=[(5,some ⟨142,2,(Enc.encL o3).length,[]⟩)]) (hpF:=m153f6_h3 a0 a1 o3) (tkF:=[]) (res2:=Qh [.agg [Qqb x8.2.1,Qq9 x8.2.2],.one (Qqb x8.1)]) (nx2:=8) [5] Z Z (m183f8_ok a0 o3 x8 hx8) Z Z (Qpq Z Z Qpo) Z Z Qq5 (Qq1 Z Qq0) (hA Z) Qpv Z Z Z Z Z Qqj Z Z Z Z)<|Qpl Z Z Z (J8 Z Z)<|Qpl Z Z Z (J8 Z Z)<|QQ Z Z (Qi JE Z Z Z Z (Qpu Z) Z)<|Qpn Z Z Z<|Q3<|Q5<|QT ?_
 have e:=Qpj h0;subst e
 exact hQ0 _ _ _ (.inr Z) Z (J1 (Qpg Z) (hA Z) Qpv Z (Ca hv0 (Qpu Z)) Z Z Z (Qql Z Z (Qqk Z (Qqm Z))) Z Z)
def ZQ  (s2:Bool×Qt×Int×Qr7×Bool×Int):Option (LO (Bool×Qt×Int×Qr7×Bool×Int) ((Qt×Int×Qr7×Bool×Int))) :=
 Option.bind (cond s2.1
   (some (!s2.2.2.2.2.1))
   (some false)) (fun (v11:Bool)=>cond v11
   (Option.bind (JH s2.2.2.2.1 s2.2.2.2.2.1 s2.2.2.2.2.2 s2.2.2.1 s2.2.1) fun (x13:Unit) =>
 Option.bind (W1 (s2.2.2.2.1.dropWhile (·==32)) s2.2.2.2.2.1 s2.2.2.2.2.2 s2.2.2.1 s2.2.1) fun (x14:(Qr7×Bool×Int×Int×Qt)) =>
 Option.bind (JH x14.1 x14.2.1 x14.2.2.1 x14.2.2.2.1 x14.2.2.2.2) fun (x15:Unit) =>
 Option.bind (Yh ([44]:List UInt8) (x14.1.dropWhile (·==32)) x14.2.1 x14.2.2.1 x14.2.2.2.1 x14.2.2.2.2) fun (x16:(Qr7)) =>
 some (.next ((Lib.hasPrefix (x14.1.dropWhile (·==32)) ([44]:List UInt8)),x14.2.2.2.2,x14.2.2.2.1,x16,x14.2.1,x14.2.2.1)))
   (some (.done (s2.2.1,s2.2.2.1,s2.2.2.2.1,s2.2.2.2.2.1,s2.2.2.2.2.2))))
abbrev Qfe :List (Nat×HB) :=
 [(0,.cells 82 [Qqb 0,Qqa]),(1,.mp (Jw imNil.1) imNil.2),(2,.cells 212 [.mp 1,Qqb 0])]
abbrev m127_h1 (p0_:Bool×Qt×Int×Qr7×Bool×Int):HB :=
 .cells 188 [ZR p0_.2.2.2.1,Qqc p0_.2.2.2.2.1,Qqb p0_.2.2.2.2.2,.ptr 2 0]
abbrev m127_h2 (p0_:Bool×Qt×Int×Qr7×Bool×Int):List (Nat×HB) :=
 [(0,.cells 82 [Qqb 0,Qqa]),(1,.mp (Jw p0_.2.1.1) p0_.2.1.2),(2,.cells 212 [.mp 1,Qqb p0_.2.2.1]),(3,m127_h1 p0_)]
abbrev Qfd (p0_:Qr7×Bool×Int×Int×Qt):HB :=
 .cells 188 [ZR (p0_.1.dropWhile (·==32)),Qqc p0_.2.1,Qqb p0_.2.2.1,.ptr 2 0]
abbrev Qfc (p0_:Qr7×Bool×Int×Int×Qt):List (Nat×HB) :=
 [(0,.cells 82 [Qqb 0,Qqa]),(1,.mp (Jw p0_.2.2.2.2.1) p0_.2.2.2.2.2),(2,.cells 212 [.mp 1,Qqb p0_.2.2.2.1]),(3,Qfd p0_)]
def Da (a0:Qr7):Option (Lvl×Int) :=
 cond (decide (65536 < (a0.length:Int)))
   (some ((⟨0,([]:List Qr1)⟩:Lvl),5))
   (Option.bind (some ()) (fun (y2:Unit)=>Option.bind (JH a0 false 0 0 imNil) fun (x4:Unit) =>
 Option.bind (Yh ([109,97,120]:List UInt8) (a0.dropWhile (·==32)) false 0 0 imNil) fun (x5:(Qr7)) =>
 Option.bind (cond (Lib.hasPrefix (a0.dropWhile (·==32)) ([109,97,120]:List UInt8))
   (Option.bind (JH x5 false 0 0 imNil) fun (x8:Unit) =>
 Option.bind (Yh ([40]:List UInt8) (x5.dropWhile (·==32)) false 0 0 imNil) fun (x9:(Qr7)) =>
 Option.bind (Qa (ZQ) Qd (true,imNil,0,x9,(!(Lib.hasPrefix (x5.dropWhile (·==32)) ([40]:List UInt8))),0)) (fun (o10:Qt×Int×Qr7×Bool×Int)=>Option.bind (Yh ([41]:List UInt8) o10.2.2.1 o10.2.2.2.1 o10.2.2.2.2 o10.2.1 o10.1) fun (x11:(Qr7)) =>
 cond (!(Lib.hasPrefix o10.2.2.1 ([41]:List UInt8)))
   (some (x11,true,o10.2.2.2.2,o10.2.1,o10.1))
   (some (x11,o10.2.2.2.1,o10.2.2.2.2,o10.2.1,o10.1))))
   (Option.bind (W1 x5 false 0 0 imNil) fun (x21:(Qr7×Bool×Int×Int×Qt)) =>
 some (x21.1,x21.2.1,x21.2.2.1,x21.2.2.2.1,x21.2.2.2.2))) (fun (v6:Qr7×Bool×Int×Int×Qt)=>Option.bind (JH v6.1 v6.2.1 v6.2.2.1 v6.2.2.2.1 v6.2.2.2.2) fun (x7:Unit) =>
 Option.bind (cond v6.2.1
   (some true)
   (some (!((v6.1.dropWhile (·==32))==([]:List UInt8))))) (fun (v8:Bool)=>cond v8
   (some ((⟨0,([]:List Qr1)⟩:Lvl),4))
   (cond (v6.2.2.1 != 0)
   (some ((⟨0,([]:List Qr1)⟩:Lvl),v6.2.2.1))
   (Option.bind (XZ v6.2.2.2.1 v6.2.2.2.2) fun (x11:(Int×Int×(List Qr1))) =>
 some ((⟨x11.2.1,x11.2.2⟩:Lvl),x11.1)))))))
theorem m127_ok (a0:Qr7) (r:Lvl×Int) (h0:Da a0=some r):Fun Tryz.prog 127 [.one (ZR a0)] (Qh [.agg (Qqf r.1),.one (Qqb r.2)]):=by
 unfold Da at h0
 refine Kl 9 83 Tryz.func127 Z en_127 Z (Qpu Z) (fun S w=>?_)
 simp only [J4]
 refine Q4<|Q0<|Qk Z Z (Qpu Z) (QR Qch Z)<|Qpn Z Z Z<|Q3<|Q5<|Q4<|Q4<|Q0<|Qpm Z Z Z<|Qpl Z Z Z (Q9s Qcr Z)<|Qpl Z Z Z (Qb Z Z Z)<|Q3<|Q5 ?_
 refine Qy (b:=(decide (65536 < (a0.length:Int)))) Z (fun c1=>?_) (fun c1=>?_)
 replace h0:=QD c1 h0
 refine Q4<|Q0<|Qpl Z Z Z (YF XA Z )<|QQ Z Z (Qi JE Z Z Z Z (Qpu Z) Z)<|Qpn Z Z Z<|Q3<|Q5<|QT ?_
 have e:=Qpj h0;subst e
 exact Zq (fun _ _ h=>h) Z (Zr JE Z Z Z Z (Jj Z .nil)) (.cons (.agg (.cons (.d _) (.cons (.nil _) .nil))) (.cons (.one (.d _)) .nil))
 replace h0:=QE c1 h0
 refine QX<|Q5<|Q4<|Q0<|Qpm Z Z Z ?_
 refine Qv h0 (fun y2 h1 h0=>?_)
 have hc3:CallM Tryz.prog 149 [] ⟨[(0,.cells 82 [Qqb 0,Qqa])],[],1⟩ (Qh [.one (.ptr 2 0)]) ⟨Qfe,[],3⟩:=by
  refine Qp ⟨[(0,.v (.one (.ptr 2 0)))],Qfe,[],3,4,[]⟩ Z Z en_149 (Qpu Z) Z (Jj Z .nil) (fun w0 M V0 Q hv1 hQ1=>?_)
  simp only [J4]
  refine Q4<|Q0<|Qpn Z Z Z<|Q3<|Q5<|Q4<|Q0<|Qk Z Z (Qpu Z) (OpOK.makeMapI)<|Qpl Z Z Z (Kz bd_212 Z Z Z)<|Qk Z Z (Qpu Z) (JZ Z)<|Qpn Z Z Z<|Q3<|Q5<|QT ?_
  have e:=Qpj h1;subst e
  exact hQ1 _ _ _ (.inr Z) Z (J1 (Qpg Z) (hA Z) Qpv Z (Ca hv1 (Qpu Z)) Z Z Z (Qql Z Z (Qqk Z (Qqm Z))) Z Z)
 refine Qk Z Z (Qpu Z) (KZ Z Z Z hc3 Z (hA Z) Qpv)<|Qpl Z Z Z (QK bd_188 Z Z Z Z)<|Qk Z Z (Qpu Z) (JZ Z)<|Qpn Z Z Z<|Q3<|Q5<|Q4<|Q0<|Qpm Z Z Z ?_
 refine Qv h0 (fun x4 hx4 h0=>?_)
 refine Qk Z Z (Qpu Z) (Qn (hp1':=[(3,.cells 188 [ZR (a0.dropWhile (·==32)),Qqc false,Qqb 0,.ptr 2 0]),(2,.cells 212 [.mp 1,Qqb 0]),(1,.mp (Jw imNil.1) imNil.2)]) (tk1':=[]) (hpF:=[(0,.cells 82 [Qqb 0,Qqa])]) (tkF:=[]) (res2:=Qh []) (nx2:=4) [3,2,1] Z Z (ZD a0 false 0 0 imNil x4 hx4) Z Z (Qpq Z Z (Qpq Z Z (Qpp Z Qpo))) Z Z (Qq6 Z (Qq6 Z (Qq7 Z Qq5))) Qq0 (hA Z) Qpv Z Z Z Z Z (Qql Z Z (Qql Z Z (Qqk Z Qqj))) Z Z Z Z)<|Q3<|Q5<|Q4<|Q4<|Q0<|Qpm Z Z Z ?_
 refine Qv h0 (fun x5 hx5 h0=>?_)
 refine Qk Z Z (Qpu Z) (Qn (hp1':=[(3,.cells 188 [ZR x5,Qqc false,Qqb 0,.ptr 2 0]),(2,.cells 212 [.mp 1,Qqb 0]),(1,.mp (Jw imNil.1) imNil.2)]) (tk1':=[]) (hpF:=[(0,.cells 82 [Qqb 0,Qqa])]) (tkF:=[]) (res2:=Qh [.one (Qqc (Lib.hasPrefix (a0.dropWhile (·==32)) ([109,97,120]:List UInt8)))]) (nx2:=4) [3,2,1] Z Z (ZC ([109,97,120]:List UInt8) (a0.dropWhile (·==32)) false 0 0 imNil x5 hx5) Z Z (Qpq Z Z (Qpq Z Z (Qpp Z Qpo))) Z Z (Qq6 Z (Qq6 Z (Qq7 Z Qq5))) Qq0 (hA Z) Qpv Z Z Z Z Z (Qql Z Z (Qql Z Z (Qqk Z Qqj))) Z Z Z Z)<|Q3<|Q5 ?_
 refine Jp (fun (v6:Qr7×Bool×Int×Int×Qt)=>⟨[(2,.v (.one (.ptr 0 0))),(4,.v (.one (.ptr 3 0)))],[(0,.cells 82 [Qqb 0,Qqa]),(1,.mp (Jw v6.2.2.2.2.1) v6.2.2.2.2.2),(2,.cells 212 [.mp 1,Qqb v6.2.2.2.1]),(3,.cells 188 [ZR v6.1,Qqc v6.2.1,Qqb v6.2.2.1,.ptr 2 0])],[],4,83,[]⟩) (fun (v6:Qr7×Bool×Int×Int×Qt)=>(Option.bind (JH v6.1 v6.2.1 v6.2.2.1 v6.2.2.2.1 v6.2.2.2.2) fun (x7:Unit) =>
   Option.bind (cond v6.2.1
     (some true)
     (some (!((v6.1.dropWhile (·==32))==([]:List UInt8))))) (fun (v8:Bool)=>cond v8
     (some ((⟨0,([]:List Qr1)⟩:Lvl),4))
     (cond (v6.2.2.1 != 0)
     (some ((⟨0,([]:List Qr1)⟩:Lvl),v6.2.2.1))
     (Option.bind (XZ v6.2.2.2.1 v6.2.2.2.2) fun (x11:(Int×Int×(List Qr1))) =>
   some ((⟨x11.2.1,x11.2.2⟩:Lvl),x11.1)))))=some r) ?_ ?_
 refine Qv h0 (fun w1_ h1 h0=>?_)
 refine Qy (b:=(Lib.hasPrefix (a0.dropWhile (·==32)) ([109,97,120]:List UInt8))) Z (fun c7=>?_) (fun c7=>?_)
 replace h1:=QD c7 h1
 refine Q4<|Q0<|Qpm Z Z Z ?_
 refine Qv h1 (fun x8 hx8 h1=>?_)
 refine Qk Z Z (Qpu Z) (Qn (hp1':=[(3,.cells 188 [ZR (x5.dropWhile (·==32)),Qqc false,Qqb 0,.ptr 2 0]),(2,.cells 212 [.mp 1,Qqb 0]),(1,.mp (Jw imNil.1) imNil.2)]) (tk1':=[]) (hpF:=[(0,.cells 82 [Qqb 0,Qqa])]) (tkF:=[]) (res2:=Qh []) (nx2:=4) [3,2,1] Z Z (ZD x5 false 0 0 imNil x8 hx8) Z Z (Qpq Z Z (Qpq Z Z (Qpp Z Qpo))) Z Z (Qq6 Z (Qq6 Z (Qq7 Z Qq5))) Qq0 (hA Z) Qpv Z Z Z Z Z (Qql Z Z (Qql Z Z (Qqk Z Qqj))) Z Z Z Z)<|Q3<|Q5<|Q4<|Q0<|Qpm Z Z Z<|Qpm Z Z Z ?_
 refine Qv h1 (fun x9 hx9 h1=>?_)
 refine Qk Z Z (Qpu Z) (Qn (hp1':=[(3,.cells 188 [ZR x9,Qqc false,Qqb 0,.ptr 2 0]),(2,.cells 212 [.mp 1,Qqb 0]),(1,.mp (Jw imNil.1) imNil.2)]) (tk1':=[]) (hpF:=[(0,.cells 82 [Qqb 0,Qqa])]) (tkF:=[]) (res2:=Qh [.one (Qqc (Lib.hasPrefix (x5.dropWhile (·==32)) ([40]:List UInt8)))]) (nx2:=4) [3,2,1] Z Z (ZC ([40]:List UInt8) (x5.dropWhile (·==32)) false 0 0 imNil x9 hx9) Z Z (Qpq Z Z (Qpq Z Z (Qpp Z Qpo))) Z Z (Qq6 Z (Qq6 Z (Qq7 Z Qq5))) Qq0 (hA Z) Qpv Z Z Z Z Z (Qql Z Z (Qql Z Z (Qqk Z Qqj))) Z Z Z Z)<|Qpl Z Z Z (Gt Z)<|Qpl Z Z Z (Qe Z)<|Qpl Z Z Z (Q2 Wh Z)<|QQ Z Z (Qi Qc8 Z Z Z Z (Qpu Z) Z)<|Q3<|Q5<|Q4<|Q4<|Q0<|Qpn Z Z Z<|Q3<|Q5<|QF ?_
 refine KX 0 (fun (o10:Qt×Int×Qr7×Bool×Int)=>⟨[(2,.v (.one (.ptr 0 0))),(4,.v (.one (.ptr 3 0)))],[(0,.cells 82 [Qqb 0,Qqa]),(1,.mp (Jw o10.1.1) o10.1.2),(2,.cells 212 [.mp 1,Qqb o10.2.1]),(3,.cells 188 [ZR o10.2.2.1,Qqc o10.2.2.2.1,Qqb o10.2.2.2.2,.ptr 2 0])],[],4,83,[]⟩) (fun (o10:Qt×Int×Qr7×Bool×Int)=>(Option.bind (Yh ([41]:List UInt8) o10.2.2.1 o10.2.2.2.1 o10.2.2.2.2 o10.2.1 o10.1) fun (x11:(Qr7)) =>
   cond (!(Lib.hasPrefix o10.2.2.1 ([41]:List UInt8)))
     (some (x11,true,o10.2.2.2.2,o10.2.1,o10.1))
     (some (x11,o10.2.2.2.1,o10.2.2.2.2,o10.2.1,o10.1)))=some w1_) ?_ ?_
 refine Qv h1 (fun o11 hl2 h1=>?_)
 refine KW (ZQ) (fun s2=>⟨[(2,.v (.one (.ptr 0 0))),(4,.v (.one (.ptr 3 0))),(5,.v (.one (Qqc s2.1)))],[(0,.cells 82 [Qqb 0,Qqa]),(1,.mp (Jw s2.2.1.1) s2.2.1.2),(2,.cells 212 [.mp 1,Qqb s2.2.2.1]),(3,.cells 188 [ZR s2.2.2.2.1,Qqc s2.2.2.2.2.1,Qqb s2.2.2.2.2.2,.ptr 2 0])],[],4,83,[]⟩) (true,imNil,0,x9,(!(Lib.hasPrefix (x5.dropWhile (·==32)) ([40]:List UInt8))),0) o11 (J1 (Qpg Z) (hA Z) Qpv Z (Cp _) Z Z Z (Qql Z Z (Qqk Z (Qqm Z))) Z Z) hl2 (fun s2 n2 oo2 h2 ho2=>?_)
 unfold ZQ at h2
 refine Q4<|Q4 ?_
 refine Jp (fun (v12:Bool)=>⟨[(2,.v (.one (.ptr 0 0))),(4,.v (.one (.ptr 3 0))),(33,.v (.one (Qqc v12)))],m127_h2 s2,[],4,83,[]⟩) (fun (v12:Bool)=>(cond v12
     (Option.bind (JH s2.2.2.2.1 s2.2.2.2.2.1 s2.2.2.2.2.2 s2.2.2.1 s2.2.1) fun (x14:Unit) =>
   Option.bind (W1 (s2.2.2.2.1.dropWhile (·==32)) s2.2.2.2.2.1 s2.2.2.2.2.2 s2.2.2.1 s2.2.1) fun (x15:(Qr7×Bool×Int×Int×Qt)) =>
   Option.bind (JH x15.1 x15.2.1 x15.2.2.1 x15.2.2.2.1 x15.2.2.2.2) fun (x16:Unit) =>
   Option.bind (Yh ([44]:List UInt8) (x15.1.dropWhile (·==32)) x15.2.1 x15.2.2.1 x15.2.2.2.1 x15.2.2.2.2) fun (x17:(Qr7)) =>
   some (.next ((Lib.hasPrefix (x15.1.dropWhile (·==32)) ([44]:List UInt8)),x15.2.2.2.2,x15.2.2.2.1,x17,x15.2.1,x15.2.2.1)))
     (some (.done (s2.2.1,s2.2.2.1,s2.2.2.2.1,s2.2.2.2.2.1,s2.2.2.2.2.2))))=some oo2) ?_ ?_
 refine Qv h2 (fun w3_ h3 h2=>?_)
 refine Q0<|Qpm Z Z Z<|Qpm Z Z Z ?_
 refine QZ (d:=27) (c:=s2.1) Z (fun c13=>?_) (fun c13=>?_)
 replace h3:=QD c13 h3
 refine Qpm Z Z Z<|Qpl Z Z Z (Qe Z)<|Qpl Z Z Z (Q2 Wh Z)<|Qpl Z Z Z (Q6 Qc8 Z Z Z)<|Qpl Z Z Z (Gt Z)<|Qpl Z Z Z (Qm Z Z)<|Q3 ?_
 have e:=Qpj h3;subst e
 exact Qj (!s2.2.2.2.2.1) (J1 (Qpg Z) (hA Z) Qpv Z (Cp _) Z Z Z (Qql Z Z (Qqk Z (Qqm Z))) Z Z) h2
 replace h3:=QE c13 h3
 refine Q8 Z Z<|Q8 Z Z<|Q8 Z Z<|Q8 Z Z<|Q8 Z Z<|Qpl Z Z Z (Qz Z Z)<|Q3 ?_
 have e:=Qpj h3;subst e
 exact Qj false (J1 (Qpg Z) (hA Z) Qpv Z (Cp _) Z Z Z (Qql Z Z (Qqk Z (Qqm Z))) Z Z) h2
 intro v12 h2
 refine Q5 ?_
 refine Qy (b:=v12) Z (fun c14=>?_) (fun c14=>?_)
 replace h2:=QD c14 h2
 refine QX<|Q5<|Q4<|QF<|Q4<|Q0<|Qpm Z Z Z ?_
 refine Qv h2 (fun x15 hx15 h2=>?_)
 refine Qk Z Z (Qpu Z) (Qn (hp1':=[(3,.cells 188 [ZR (s2.2.2.2.1.dropWhile (·==32)),Qqc s2.2.2.2.2.1,Qqb s2.2.2.2.2.2,.ptr 2 0]),(2,.cells 212 [.mp 1,Qqb s2.2.2.1]),(1,.mp (Jw s2.2.1.1) s2.2.1.2)]) (tk1':=[]) (hpF:=[(0,.cells 82 [Qqb 0,Qqa])]) (tkF:=[]) (res2:=Qh []) (nx2:=4) [3,2,1] Z Z (ZD s2.2.2.2.1 s2.2.2.2.2.1 s2.2.2.2.2.2 s2.2.2.1 s2.2.1 x15 hx15) Z Z (Qpq Z Z (Qpq Z Z (Qpp Z Qpo))) Z Z (Qq6 Z (Qq6 Z (Qq7 Z Qq5))) Qq0 (hA Z) Qpv Z Z Z Z Z (Qql Z Z (Qql Z Z (Qqk Z Qqj))) Z Z Z Z)<|Q3<|Q5<|Q4<|Q0<|Qpm Z Z Z ?_
 refine Qv h2 (fun x16 hx16 h2=>?_)
 refine Qk Z Z (Qpu Z) (Qn (hp1':=[(3,.cells 188 [ZR x16.1,Qqc x16.2.1,Qqb x16.2.2.1,.ptr 2 0]),(2,.cells 212 [.mp 1,Qqb x16.2.2.2.1]),(1,.mp (Jw x16.2.2.2.2.1) x16.2.2.2.2.2)]) (tk1':=[]) (hpF:=[(0,.cells 82 [Qqb 0,Qqa])]) (tkF:=[]) (res2:=Qh []) (nx2:=7) [3,2,1] Z Z (Q6g (s2.2.2.2.1.dropWhile (·==32)) s2.2.2.2.2.1 s2.2.2.2.2.2 s2.2.2.1 s2.2.1 x16 hx16) Z Z (Qpq Z Z (Qpq Z Z (Qpp Z Qpo))) Z Z (Qq6 Z (Qq6 Z (Qq7 Z Qq5))) Qq0 (hA Z) Qpv Z Z Z Z Z (Qql Z Z (Qql Z Z (Qqk Z Qqj))) Z Z Z Z)<|Q3<|Q5<|Q0<|Qpm Z Z Z ?_
 refine Qv h2 (fun x17 hx17 h2=>?_)
 refine Qk Z Z (Qpu Z) (Qn (hp1':=[(3,.cells 188 [ZR (x16.1.dropWhile (·==32)),Qqc x16.2.1,Qqb x16.2.2.1,.ptr 2 0]),(2,.cells 212 [.mp 1,Qqb x16.2.2.2.1]),(1,.mp (Jw x16.2.2.2.2.1) x16.2.2.2.2.2)]) (tk1':=[]) (hpF:=[(0,.cells 82 [Qqb 0,Qqa])]) (tkF:=[]) (res2:=Qh []) (nx2:=7) [3,2,1] Z Z (ZD x16.1 x16.2.1 x16.2.2.1 x16.2.2.2.1 x16.2.2.2.2 x17 hx17) Z Z (Qpq Z Z (Qpq Z Z (Qpp Z Qpo))) Z Z (Qq6 Z (Qq6 Z (Qq7 Z Qq5))) Qq0 (hA Z) Qpv Z Z Z Z Z (Qql Z Z (Qql Z Z (Qqk Z Qqj))) Z Z Z Z)<|Q3<|Jh<|Q5<|Q0<|Qpm Z Z Z ?_
 refine Qv h2 (fun x18 hx18 h2=>?_)
 refine Qk Z Z (Qpu Z) (Qn (hp1':=[(3,.cells 188 [ZR x18,Qqc x16.2.1,Qqb x16.2.2.1,.ptr 2 0]),(2,.cells 212 [.mp 1,Qqb x16.2.2.2.1]),(1,.mp (Jw x16.2.2.2.2.1) x16.2.2.2.2.2)]) (tk1':=[]) (hpF:=[(0,.cells 82 [Qqb 0,Qqa])]) (tkF:=[]) (res2:=Qh [.one (Qqc (Lib.hasPrefix (x16.1.dropWhile (·==32)) ([44]:List UInt8)))]) (nx2:=7) [3,2,1] Z Z (ZC ([44]:List UInt8) (x16.1.dropWhile (·==32)) x16.2.1 x16.2.2.1 x16.2.2.2.1 x16.2.2.2.2 x18 hx18) Z Z (Qpq Z Z (Qpq Z Z (Qpp Z Qpo))) Z Z (Qq6 Z (Qq6 Z (Qq7 Z Qq5))) Qq0 (hA Z) Qpv Z Z Z Z Z (Qql Z Z (Qql Z Z (Qqk Z Qqj))) Z Z Z Z)<|Qpn Z Z Z<|Q3 ?_
 have e:=Qpj h2;subst e
 refine KU ((Lib.hasPrefix (x16.1.dropWhile (·==32)) ([44]:List UInt8)),x16.2.2.2.2,x16.2.2.2.1,x18,x16.2.1,x16.2.2.1) (J1 (Qpg Z) (hA Z) Qpv Z (Cp _) Z Z Z (Qql Z Z (Qqk Z (Qqm Z))) Z Z) ho2
 replace h2:=QE c14 h2
 refine Gh<|JN<|JN ?_
 have e:=Qpj h2;subst e
 have e_:_=_:=ho2
 subst e_
 exact KV (s2.2.1,s2.2.2.1,s2.2.2.2.1,s2.2.2.2.2.1,s2.2.2.2.2.2) (J1 (Qpg Z) (hA Z) Qpv Z (Cp _) Z Z Z (Qql Z Z (Qqk Z (Qqm Z))) Z Z) h1
 intro o10 h1
 refine Z4<|Q5<|Q4<|Q0<|Qpm Z Z Z ?_
 refine Qv h1 (fun x19 hx19 h1=>?_)
 refine Qk Z Z (Qpu Z) (Qn (hp1':=[(3,.cells 188 [ZR x19,Qqc o10.2.2.2.1,Qqb o10.2.2.2.2,.ptr 2 0]),(2,.cells 212 [.mp 1,Qqb o10.2.1]),(1,.mp (Jw o10.1.1) o10.1.2)]) (tk1':=[]) (hpF:=[(0,.cells 82 [Qqb 0,Qqa])]) (tkF:=[]) (res2:=Qh [.one (Qqc (Lib.hasPrefix o10.2.2.1 ([41]:List UInt8)))]) (nx2:=4) [3,2,1] Z Z (ZC ([41]:List UInt8) o10.2.2.1 o10.2.2.2.1 o10.2.2.2.2 o10.2.1 o10.1 x19 hx19) Z Z (Qpq Z Z (Qpq Z Z (Qpp Z Qpo))) Z Z (Qq6 Z (Qq6 Z (Qq7 Z Qq5))) Qq0 (hA Z) Qpv Z Z Z Z Z (Qql Z Z (Qql Z Z (Qqk Z Qqj))) Z Z Z Z)<|Qpl Z Z Z (Gt Z)<|Q3<|Q5 ?_
 refine Qy (b:=(!(Lib.hasPrefix o10.2.2.1 ([41]:List UInt8)))) Z (fun c20=>?_) (fun c20=>?_)
 replace h1:=QD c20 h1
 refine Q0<|Qpm Z Z Z<|Qpl Z Z Z (Qe Z)<|Qpl Z Z Z (Q2 Wh Z)<|QQ Z Z (Qi Qc8 Z Z Z Z (Qpu Z) Z)<|Q3 ?_
 have e:=Qpj h1;subst e
 exact Qj (x19,true,o10.2.2.2.2,o10.2.1,o10.1) (J1 (Qpg Z) (hA Z) Qpv Z (Cp _) Z Z Z (Qql Z Z (Qqk Z (Qqm Z))) Z Z) h0
 replace h1:=QE c20 h1
 refine QX ?_
 have e:=Qpj h1;subst e
 exact Qj (x19,o10.2.2.2.1,o10.2.2.2.2,o10.2.1,o10.1) (J1 (Qpg Z) (hA Z) Qpv Z (Cp _) Z Z Z (Qql Z Z (Qqk Z (Qqm Z))) Z Z) h0
 replace h1:=QE c7 h1
 refine Q0<|Qpm Z Z Z ?_
 refine Qv h1 (fun x21 hx21 h1=>?_)
 refine Qk Z Z (Qpu Z) (Qn (hp1':=[(3,.cells 188 [ZR x21.1,Qqc x21.2.1,Qqb x21.2.2.1,.ptr 2 0]),(2,.cells 212 [.mp 1,Qqb x21.2.2.2.1]),(1,.mp (Jw x21.2.2.2.2.1) x21.2.2.2.2.2)]) (tk1':=[]) (hpF:=[(0,.cells 82 [Qqb 0,Qqa])]) (tkF:=[]) (res2:=Qh []) (nx2:=7) [3,2,1] Z Z (Q6g x5 false 0 0 imNil x21 hx21) Z Z (Qpq Z Z (Qpq Z Z (Qpp Z Qpo))) Z Z (Qq6 Z (Qq6 Z (Qq7 Z Qq5))) Qq0 (hA Z) Qpv Z Z Z Z Z (Qql Z Z (Qql Z Z (Qqk Z Qqj))) Z Z Z Z)<|Q3 ?_
 have e:=Qpj h1;subst e
 exact Qj (x21.1,x21.2.1,x21.2.2.1,x21.2.2.2.1,x21.2.2.2.2) (J1 (Qpg Z) (hA Z) Qpv Z (Cp _) Z Z Z (Qql Z Z (Qqk Z (Qqm Z))) Z Z) h0
 intro v6 h0
 refine Q5<|Q4<|Q0<|Qpm Z Z Z ?_
 refine Qv h0 (fun x22 hx22 h0=>?_)
 refine Qk Z Z (Qpu Z) (Qn (hp1':=[(3,.cells 188 [ZR (v6.1.dropWhile (·==32)),Qqc v6.2.1,Qqb v6.2.2.1,.ptr 2 0]),(2,.cells 212 [.mp 1,Qqb v6.2.2.2.1]),(1,.mp (Jw v6.2.2.2.2.1) v6.2.2.2.2.2)]) (tk1':=[]) (hpF:=[(0,.cells 82 [Qqb 0,Qqa])]) (tkF:=[]) (res2:=Qh []) (nx2:=4) [3,2,1] Z Z (ZD v6.1 v6.2.1 v6.2.2.1 v6.2.2.2.1 v6.2.2.2.2 x22 hx22) Z Z (Qpq Z Z (Qpq Z Z (Qpp Z Qpo))) Z Z (Qq6 Z (Qq6 Z (Qq7 Z Qq5))) Qq0 (hA Z) Qpv Z Z Z Z Z (Qql Z Z (Qql Z Z (Qqk Z Qqj))) Z Z Z Z)<|Q3<|Q5<|Q4<|QF<|Q4 ?_
 refine Jp (fun (v23:Bool)=>⟨[(2,.v (.one (.ptr 0 0))),(4,.v (.one (.ptr 3 0))),(52,.v (.one (Qqc v23)))],Qfc v6,[],4,83,[]⟩) (fun (v23:Bool)=>(cond v23
     (some ((⟨0,([]:List Qr1)⟩:Lvl),4))
     (cond (v6.2.2.1 != 0)
     (some ((⟨0,([]:List Qr1)⟩:Lvl),v6.2.2.1))
     (Option.bind (XZ v6.2.2.2.1 v6.2.2.2.2) fun (x26:(Int×Int×(List Qr1))) =>
   some ((⟨x26.2.1,x26.2.2⟩:Lvl),x26.1))))=some r) ?_ ?_
 refine Qv h0 (fun w1_ h1 h0=>?_)
 refine Q0<|Qpm Z Z Z<|Qpl Z Z Z (Qe Z)<|Qpl Z Z Z (Q2 Wh Z)<|Qpl Z Z Z (Q6 Qc8 Z Z Z)<|Qpm Z Z Z ?_
 refine QZ (d:=57) (c:=v6.2.1) Z (fun c24=>?_) (fun c24=>?_)
 replace h1:=QD c24 h1
 refine Q8 Z Z<|Q8 Z Z<|Q8 Z Z<|Q8 Z Z<|Q8 Z Z<|Qpl Z Z Z (Qm Z Z)<|Qpn Z Z Z<|Q3 ?_
 have e:=Qpj h1;subst e
 exact Qj true (J1 (Qpg Z) (hA Z) Qpv Z (Cp _) Z Z Z (Qql Z Z (Qqk Z (Qqm Z))) Z Z) h0
 replace h1:=QE c24 h1
 refine Qpm Z Z Z<|Qpl Z Z Z (Qe Z)<|Qpl Z Z Z (Q2 Yu Z)<|Qpl Z Z Z (Q6 Q0n Z Z Z)<|Qpl Z Z Z (Qki Z Z)<|Qpl Z Z Z (Qz Z Z)<|Qpn Z Z Z<|Q3 ?_
 have e:=Qpj h1;subst e
 exact Qj (!((v6.1.dropWhile (·==32))==([]:List UInt8))) (J1 (Qpg Z) (hA Z) Qpv Z (Cp _) Z Z Z (Qql Z Z (Qqk Z (Qqm Z))) Z Z) h0
 intro v23 h0
 refine Q5 ?_
 refine Qy (b:=v23) Z (fun c25=>?_) (fun c25=>?_)
 replace h0:=QD c25 h0
 refine Q4<|Q0<|Qpl Z Z Z (YF XA Z )<|QQ Z Z (Qi JE Z Z Z Z (Qpu Z) Z)<|Qpn Z Z Z<|Q3<|Q5<|QT ?_
 have e:=Qpj h0;subst e
 exact Zq (fun _ _ h=>h) Z (Zr JE Z Z Z Z (Jj Z .nil)) (.cons (.agg (.cons (.d _) (.cons (.nil _) .nil))) (.cons (.one (.d _)) .nil))
 replace h0:=QE c25 h0
 refine Q4<|Q0<|Qpm Z Z Z<|Qpl Z Z Z (Qe Z)<|Qpl Z Z Z (Q2 Wg Z)<|Qpl Z Z Z (Q6 GS Z Z Z)<|Qpl Z Z Z (Qb Z Z Z)<|Qpn Z Z Z<|Q3<|Q5 ?_
 refine Qy (b:=(v6.2.2.1 != 0)) Z (fun c26=>?_) (fun c26=>?_)
 replace h0:=QD c26 h0
 refine Q4 ?_
 refine YD [5] [(1,1),(2,1),(3,1),(4,1)] mixed (by kernel_rfl) (by kernel_rfl) (by kernel_rfl) ?_
 refine RunA.rd Z Z Z (Q9 (YF XA Z )) Z<|RunA.rd Z Z Z (Q9 (YE Z)) Z<|RunA.rd Z Z Z (Q9 (Qe Z)) Z<|RunA.rd Z Z Z (Q9 (Q2 Wg Z)) Z<|RunA.rd Z Z Z (Q9 (Q6 GS Z Z Z)) Z<|RunA.eff Z Z Z (Qi JE Z Z Z Z (Qpu Z) Z) Z<|RunA.rd Z Z Z (Q9 (Q0q Z)) Z ?_
 refine RunA.nil ⟨?ex,_,_,Z,?_⟩
 case ex=>exact ⟨⟨_,rfl,_,_,rfl,rfl,rfl,.inl ⟨rfl,_,Q9 (YE rfl),rfl⟩⟩,⟨_,rfl,_,_,rfl,rfl,rfl,.inl ⟨rfl,_,Q9 (Qe rfl),rfl⟩⟩,⟨_,rfl,_,_,rfl,rfl,rfl,.inl ⟨rfl,_,Q9 (Q2 Wg rfl),rfl⟩⟩,⟨_,rfl,_,_,rfl,rfl,rfl,.inl ⟨rfl,_,Q9 (Q6 GS rfl rfl rfl),rfl⟩⟩,trivial⟩
 refine Xp (st':=⟨[(2,.v (.one (.ptr 0 0))),(3,.v (.one (Qqb v6.2.2.1)))],Qfc v6,[],4,83,[]⟩) (J1 (Qpg Z) (hA Z) Qpv Z (Cp _) Z Z Z (Qql Z Z (Qqk Z (Qqm Z))) Z Z)<|Q5<|QT ?_
 have e:=Qpj h0;subst e
 exact Zq (fun _ _ h=>h) Z (Zr JE Z Z Z Z (Jj Z .nil)) (.cons (.agg (.cons (.d _) (.cons (.nil _) .nil))) (.cons (.one (.d _)) .nil))
 replace h0:=QE c26 h0
 refine QX<|Jh<|Q5<|Q4<|Q0<|Qpm Z Z Z<|Qpl Z Z Z (Qe Z)<|Qpl Z Z Z (Q2 Qbj Z)<|Qpl Z Z Z (Q6 Qka Z Z Z) ?_
 refine Qv h0 (fun x27 hx27 h0=>?_)
 refine Qk Z Z (Qpu Z) (Qn (hp1':=[(2,.cells 212 [.mp 1,Qqb v6.2.2.2.1]),(1,.mp (Jw v6.2.2.2.2.1) v6.2.2.2.2.2),(4,.cells 82 [Qqb x27.2.1,Qq9 x27.2.2])]) (tk1':=[]) (hpF:=[(0,.cells 82 [Qqb 0,Qqa]),(3,Qfd v6)]) (tkF:=[]) (res2:=Qh [.agg [Qqb x27.2.1,Qq9 x27.2.2],.one (Qqb x27.1)]) (nx2:=10) [2,1] Z Z (m153f6_ok v6.2.2.2.1 v6.2.2.2.2 x27 hx27) Z Z (Qpq Z Z (Qpp Z (Qpq Z Z Qpo))) Z Z (Qq6 Z (Qq7 Z Qq5)) Qq0 (hA Z) Qpv Z Z Z Z Z (Qql Z Z (Qqk Z Qqj)) Z Z Z Z)<|Qpl Z Z Z (J8 Z Z)<|Qpl Z Z Z (J8 Z Z)<|QQ Z Z (Qi JE Z Z Z Z (Qpu Z) Z)<|Qpn Z Z Z<|Q3<|Q5<|QT ?_
 have e:=Qpj h0;subst e
 exact Zq (fun _ _ h=>h) Z (Zr JE Z Z Z Z (Jj Z .nil)) (.cons (.agg (.cons (.d _) (.cons (.d _) .nil))) (.cons (.one (.d _)) .nil))
def k127:KF UV:=⟨[.str],[.stc .t82,.int .i64],fun v=>Da v⟩
theorem k127_ok:Yy DV W0 Tryz.prog 127 k127:=⟨rfl,fun v r h=>DH (Eq.mp (show _=Fun Tryz.prog 127 (QN DV k127.args v) (Qh (QN DV k127.res r)) from by kernel_rfl) (m127_ok v r h))⟩
end
end Go.Proofs.YtjcfppnjamjjhaaGreatDoor
