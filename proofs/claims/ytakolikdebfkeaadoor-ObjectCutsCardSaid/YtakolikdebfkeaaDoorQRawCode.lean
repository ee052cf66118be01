import Derived.Test.YtakolikdebfkeaaDoorChecked
import Derived.Test.YtakolikdebfkeaaDoorQFInf6
import Derived.Test.YtakolikdebfkeaaDoorQAMS
import Derived.Test.YtakolikdebfkeaaDoorQInfCode
open Nat (reduceDiv reduceMod reduceSub reduceAdd reduceLeDiff reduceEqDiff)
set_option linter.all false
namespace Go.Proofs.YtakolikdebfkeaaDoor
open Go.RowKit
def b_iraw_0:ACode:=(.seq (.seq (.reg none [oS 15 (.mv (.t 8)),oS 16 (.bin .eql (.t 15) (.c (.int .i64 0)))]) (.cond (.t 16) .skip (.exit 0))) (.block 1 (.seq (.reg none [oS 17 (.mv (.t 7)),oS 18 (.nck (.t 17)),oS 19 (.fa 0 (.t 18)),oS 20 (.call 69 [(.t 19)]),oS 8 (.mv (.t 20))]) (.seq (.reg none [oS 21 (.mv (.t 7)),oS 22 (.nck (.t 21)),oS 23 (.fa 0 (.t 22)),oS 24 (.call 70 [(.t 23),(.c (.int .i64 2))])]) (.block 2 (.seq (.reg none [oS 27 (.bin .eql (.t 24) (.c (.int .i64 0))),oS 26 (.mv (.t 27))]) (.cond (.t 26) (.reg none [oS 28 (.mv (.t 7)),oS 29 (.call 71 [(.t 28)])]) (.seq (.reg none [oS 31 (.bin .eql (.t 24) (.c (.int .i64 1))),oS 30 (.mv (.t 31))]) (.cond (.t 30) (.reg none [oS 32 (.mv (.t 7)),oS 33 (.call 73 []),oS 34 (.ext (.t 33) 0),oS 35 (.ext (.t 33) 1),oS 36 (.call 72 [(.t 32),(.t 34),(.t 35)])]) (.seq (.reg none [oS 38 (.bin .eql (.t 24) (.c (.int .i64 2))),oS 37 (.mv (.t 38))]) (.cond (.t 37) (.reg none [oS 39 (.mv (.t 7)),oS 40 (.mv (.t 7)),oS 41 (.call 74 [(.t 40)]),oS 42 (.ext (.t 41) 0),oS 43 (.ext (.t 41) 1),oS 44 (.call 72 [(.t 39),(.t 42),(.t 43)])]) (.reg none [oS 25 (.call 75 [(.c (.int .i64 4))])]))))))))))))
def t_iraw_0:ACode:=(.seq (.reg (some [(1000,true),(0,true),(1,true),(2,true),(4,true),(0,true),(16,true),(32,true),(64,true),(128,true),(256,true),(512,true),(15,true),(4095,true),(8191,true)]) [oS 45 (.mv (.t 7)),oS 46 (.nck (.t 45)),oS 47 (.fa 2 (.t 46)),oS 48 (.ld (.one (.con (.slice none 0 0))) (.t 47)),oS 49 (.mv (.t 7)),oS 50 (.nck (.t 49)),oS 51 (.fa 0 (.t 50)),oS 52 (.fa 1 (.t 51)),oS 53 (.ld (.one (.int .i64 0)) (.t 52)),oS 54 (.bin .add (.t 53) (.c (.int .i64 7))),oS 55 (.bin .quo (.t 54) (.c (.int .i64 8))),oN (.st (.one (.con (.slice none 0 0))) (.t 4) (.t 48)),oN (.st (.one (.int .i64 0)) (.t 5) (.t 55)),oN (.st (.one (.int .i64 0)) (.t 6) (.c (.int .i64 0)))]) .ret)
def c_iraw:ACode:=(.seq (.reg none [oS 4 (.new 27 [(1,(.con (.slice none 0 0)))]),oS 5 (.new 3 [(1,(.int .i64 0))]),oS 6 (.new 28 [(1,(.int .i64 0))])]) (.seq (.reg none [oS 10 (.mv (.t 0)),oS 11 (.build [(1,(.con (.slice none 0 0))),(1,(.int .i64 0))] [(0,(1,(.t 10)))]),oS 12 (.mv (.t 1)),oS 13 (.build [(1,(.con (.slice none 0 0))),(1,(.int .i64 0)),(1,(.con (.slice none 0 0))),(1,(.int .i64 0))] [(0,(2,(.t 11))),(3,(1,(.t 12)))]),oS 14 (.box 121 4 (.t 13)),oS 7 (.mv (.t 14))]) (.seq (.seq (.reg none [oS 8 (.mv (.c (.int .i64 0)))]) (.block 0 (.loop b_iraw_0))) t_iraw_0)))
def r_iraw:List ARes:=[(.c 4 (.one (.con (.slice none 0 0)))),(.c 5 (.one (.int .i64 0))),(.c 6 (.one (.int .i64 0)))]
theorem s_iraw:slimFN [14] Tryd.prog (noDefer Tryd.f49)=some (c_iraw,r_iraw):=by kernel_rfl
def c_irawc:ACode:=(.seq (.reg none [oS 7 (.mv (.t 3)),oS 8 (.nilc 0 true (.t 7))]) (.cond (.t 8) (.seq (.reg none [oS 10 (.mv (.t 3)),oS 11 (.tas 115 (.t 10)),oS 9 (.mv (.t 11)),oS 12 (.ext (.t 9) 0),oS 13 (.ext (.t 9) 1),oS 4 (.new 115 [(1,(.int .i64 0))]),oN (.st (.st 1) (.t 4) (.t 12)),oS 5 (.mv (.t 13))]) (.seq (.seq (.reg none [oS 14 (.mv (.t 5)),oS 15 (.un .not (.t 14))]) (.cond (.t 15) (.reg none [oS 16 (.mv (.t 3)),oN (.pan (.t 16))]) .skip)) (.reg (some [(0,false),(0,false),(3,false),(4,false),(4,true)]) [oS 17 (.fa 0 (.t 4)),oS 18 (.ld (.one (.int .i64 0)) (.t 17)),oN (.st (.one (.con (.slice none 0 0))) (.t 0) (.c (.con (.slice none 0 0)))),oN (.st (.one (.int .i64 0)) (.t 1) (.c (.int .i64 0))),oN (.st (.one (.int .i64 0)) (.t 2) (.t 18))]))) .skip))
def r_irawc:List ARes:=[]
theorem s_irawc:slimF Tryd.prog (tail1 Tryd.f68)=some (c_irawc,r_irawc):=by kernel_rfl
theorem nif_und:Tryd.prog.underlying 20=some (.interface #[]):=by kernel_rfl
theorem iraw_idle:IdleOk Tryd.prog 68:=by
 intro caps w hc
 obtain ⟨p,q,r,rfl⟩:∃ p q r,caps=#[p,q,r]:=by
  match caps,hc with
  | ⟨[p,q,r]⟩,_=>exact ⟨p,q,r,rfl⟩
 refine callsD_of_wpS Tryd.func68 rfl fun c₀ cs hu=>?_
 apply wpS_seq
 apply wpS_region
 simp [wpOpsS,go_sem,recoverD,hu,Tryd.ntmps68,Exit.thenS]
 apply wpS_seq
 apply wpS_region
 simp [wpOpsS,go_sem,Exit.thenS,nif_und]
 refine wpS_cond (t:=false) (by simp [Act.eval,Array.replicate]) ?_
 simp only [Bool.false_eq_true,if_false]
 refine wpS_of_wp (wp_skip ?_)
 cases c₀
 simp_all [bodyPostS,results,Tryd.results68]
def rawHp:List AObj:=[.cells 27 [(1,.con (.slice none 0 0))],.cells 3 [(1,.int .i64 0)],.cells 28 [(1,.int .i64 0)]]
def rawCat (x:AV) (hp' : List AObj):Prop:=∃ e:Nat,x=wrongV e∧hp' = [.cells 27 [(1,.con (.slice none 0 0))],.cells 3 [(1,.int .i64 0)],.cells 28 [(1,.int .i64 (e:Int))],.cells 115 [(1,.int .i64 (e:Int))]]
theorem iraw_catch:CatchOk Tryd.prog 68 rawHp rawCat:=by
 rintro x hp' ⟨e,rfl,rfl⟩ w S ρ caps v H hgl hc hcv hv
 obtain ⟨p,q,r,rfl⟩:∃ p q r,caps=#[p,q,r]:=by
  match caps,hc with
  | ⟨[p,q,r]⟩,_=>exact ⟨p,q,r,rfl⟩
 refine callsD_of_wpS Tryd.func68 rfl fun c₀ cs hu=>?_
 apply wpS_seq
 apply wpS_region
 simp [wpOpsS,go_sem,recoverD,hu,Tryd.ntmps68,Exit.thenS]
 refine wpS_of_wp ?_
 refine awp3_ok (T:=fun _ _ _=>False) (m:=3) (F:=Lent ρ rawHp) (w0:=w) (S0:=S) (ρ0:=ρ) (ds:=[]) (Φ:=phiL []) (ΦX:=phXL []) phi_nil phXL_nil (fun i v L hL=>?_) c_irawc (fun e' s=>e' = .normal∧(toS s).hp=[.cells 27 [(1,.con (.slice none 0 0))],.cells 3 [(1,.int .i64 0)],.cells 28 [(1,.int .i64 (e:Int))],.cells 115 [(1,.int .i64 (e:Int))]]) (ofS ⟨[(0,.ref 0 0 0),(1,.ref 1 0 0),(2,.ref 2 0 0),(3,wrongV e)],rawHp⟩) ?_ _ (slim_mt s_irawc (by rfl)) _ (fun e' s a' w' hq R' => ?_) (fun x' st ids v a w' ht R' => ht.elim) _ w ?_
 ·rcases Nat.lt_or_ge i 3 with h1 | h1
  ·exact h1
  ·rw [H.new i h1] at hL; cases hL
 ·simp only [c_irawc,rawHp,wrongV,go_sem,reduceDiv,reduceMod,↓reduceIte,reduceEqDiff,Nat.reduceBEq,reduceSub,Nat.reduceLT,reduceAdd,reduceLeDiff,reduceCtorEq,Int.reduceEq,Int.reduceNe,Int.reduceLT,Int.reduceLE,Int.reduceToNat]
 ·obtain ⟨rfl,hq⟩:=hq
  obtain ⟨S',ρ',R'⟩:=R'
  refine ⟨R'.dfr,_,rfl,.tuple #[],?_,rfl,rfl,S',ρ',by rw [← hq]; exact R'.heap,R'.ext,R'.sin⟩
  simp [results,Tryd.results68]
 ·have R:Rel (Lent ρ rawHp) w S ρ (tail1 Tryd.f68).ntmps [] ⟨[(0,.ref 0 0 0),(1,.ref 1 0 0),(2,.ref 2 0 0),(3,wrongV e)],rawHp⟩ { tmps:=#[p,q,r] ++ ((Array.replicate 16 undef).setIfInBounds 3 v).setIfInBounds 0 v,defers:=[] } w:=by
   refine ⟨S,ρ,H,⟨hgl,fun t=>?_⟩,by simp; rfl,rfl,fun _ hb=>.inl hb,Ext.refl _ _ _⟩
   match t with
   | 0=>have h:=hcv 0 (by omega); simp at h; simp [lk]; exact h
   | 1=>have h:=hcv 1 (by omega); simp at h; simp [lk]; exact h
   | 2=>have h:=hcv 2 (by omega); simp at h; simp [lk]; exact h
   | 3=>simp [lk]; exact hv
   | t+4 =>
    have e4:lk [(0,AV.ref 0 0 0),(1,AV.ref 1 0 0),(2,AV.ref 2 0 0),(3,wrongV e)] (t+4)=.top:=by
     simp only [lk]
     rw [if_neg (by omega),if_neg (by omega),if_neg (by omega),if_neg (by omega)]
    rw [e4]; exact Vl.top _
  exact R.toS (R2.ofS _)
abbrev Td:=List Bool→Nat→RdE (List Nat × List Nat)
def itoldS (td:Td):Spec:=fun xs hp=>match xs,hp with
 | [.ref 0 0 0],[.cells t [(1,.sl k ps),(1,.int .i64 a),(1,.own 1 v),(1,.int .i64 m)],.row 5 1 rv ys]=>match td (bitsOf (unB ps)) a.toNat with
  | .ok ((ls,ds),q)=>some ⟨.tup [codeV ls,codeV ds],[.cells t [(1,.sl k ps),(1,.int .i64 (q:Int)),(1,.own 1 v),(1,.int .i64 m)],.row 5 1 rv ys],inpOk k ps∧0≤a⟩
  | .error _=>none
 | _,_=>none
def itoldX (td:Td):XSpec:=fun xs hp=>match xs,hp with
 | [.ref 0 0 0],[.cells t [(1,.sl k ps),(1,.int .i64 a),(1,.own 1 v),(1,.int .i64 m)],.row 5 1 rv ys]=>match td (bitsOf (unB ps)) a.toNat with
  | .ok _=>none
  | .error e=>some (wrongV e,inpOk k ps∧0≤a∧a≤8 * ((unB ps).length:Int)∧e≠9)
 | _,_=>none
structure TdOk (td:Td):Prop where
 fn:FnOk Tryd.prog 74 (itoldS td)
 px:FnPX Tryd.prog 74 (itoldX td)
 pos:∀ {B:List Bool} {p:Nat} {ls ds:List Nat} {q:Nat},p≤B.length→td B p=.ok ((ls,ds),q)→p≤q∧q≤B.length∧ls.length≤320∧ds.length≤320
def tdNo:Td:=fun _ _=>.error 9
theorem tdNo_ok:TdOk tdNo:=by
 refine ⟨?_,?_,fun _ h=>by cases h⟩
 ·intro xs hp r hs
  unfold itoldS tdNo at hs
  split at hs <;> cases hs
 ·intro xs hp x p hs hp'
  unfold itoldX tdNo at hs
  split at hs
  ·injection hs with hs; injection hs with e1 e2; subst e2
   exact absurd rfl hp'.2.2.2
  ·cases hs
def irawS (td:Td):Spec:=fun xs hp=>match xs,hp with
 | [.sl k ps,.int .i64 m],[]=>match rawE td (unB ps) m.toNat with
  | .ok (o,n)=>some ⟨.tup [.own 0 o.length,.int .i64 (n:Int),.int .i64 0],[.row 5 1 o.length (Bs o)],inpOk k ps∧0≤m∧m≤100000000⟩
  | .error e=>some ⟨.tup [.con (.slice none 0 0),.int .i64 0,.int .i64 (e:Int)],[],inpOk k ps∧0≤m∧m≤100000000∧e≠9⟩
 | _,_=>none
theorem phRaw_ok {td:Td} (h:TdOk td):PhiOk Tryd.prog (phiL [(69,[],ibitS),(70,[],inumS),(71,[],istorS),(73,[],ifixS),(72,[],isignsS),(74,[],itoldS td)]):=phi_cons ibit_ok (by kernel_rfl) (phi_cons inum_ok (by kernel_rfl) (phi_cons istor_ok (by kernel_rfl) (phi_cons ifix_ok (by kernel_rfl) (phi_cons isigns_ok (by kernel_rfl) (phi_cons h.fn (by kernel_rfl) phi_nil)))))
theorem phRaw_px {td:Td} (h:TdOk td):PhXOk Tryd.prog (phXL [(69,[],ibitX),(70,[],inumX),(71,[],istorX),(72,[],isignsX),(74,[],itoldX td),(75,[],ifailX)]):=phXL_cons ibit_px (by kernel_rfl) (phXL_cons inum_px (by kernel_rfl) (phXL_cons istor_px (by kernel_rfl) (phXL_cons isigns_px (by kernel_rfl) (phXL_cons h.px (by kernel_rfl) (phXL_cons ifail_ok (by kernel_rfl) phXL_nil)))))
theorem bytes_pos {B:List Bool} {most:Nat}:∀ {n p:Nat} {out o:List UInt8} {q:Nat},bytesE B most n p out=.ok (o,q)→p≤B.length→p≤q∧q≤B.length∧out.length≤o.length∧o.length≤max most out.length
 | 0,p,out,o,q,h,hp=>by injection h with h; injection h with h1 h2; subst h1 h2; omega
 | n+1,p,out,o,q,h,hp=>by
  rw [bytesE_succ] at h
  split at h
  ·cases h
  ·rename_i c p1 hn
   split at h
   ·cases h
   ·rename_i o' ho
    obtain ⟨a1,a2,a3⟩:=numE_ok hn
    have h1:=put_len ho
    have hl:o'.length=out.length+1:=by rw [h1.1,List.length_append]; rfl
    have:=bytes_pos h (by omega)
    omega
theorem stored_pos {B:List Bool} {most p:Nat} {out o:List UInt8} {q:Nat} (h:storedE B most p out=.ok (o,q)):p≤q∧q≤B.length∧out.length≤o.length∧o.length≤max most out.length:=by
 unfold storedE at h
 split at h
 ·cases h
 ·rename_i n p1 hn
  split at h
  ·cases h
  ·rename_i m p2 hm
   split at h
   ·obtain ⟨a1,a2,a3⟩:=numE_ok hn
    obtain ⟨b1,b2,b3⟩:=numE_ok hm
    have:=bytes_pos h (by omega)
    omega
   ·cases h
theorem copyE_most {most back:Nat}:∀ {n:Nat} {out o:List UInt8},copyE most back n out=.ok o→o.length≤max most out.length
 | 0,out,o,h=>by injection h with h; subst h; omega
 | n+1,out,o,h=>by
  rw [copyE_succ] at h
  split at h
  ·cases h
  ·rename_i o' ho
   have h1:=put_len ho
   have hl:o'.length=out.length+1:=by rw [h1.1,List.length_append]; rfl
   have:=copyE_most h
   omega
theorem signs_pos {ls ds:List Nat} {B:List Bool} {most N:Nat} (h0:0<N) (hl:∀ i∈sgs ls,i<N) (hd:∀ i∈sgs ds,i<N):∀ {f p:Nat} {out o:List UInt8} {q:Nat},signsE ls ds B most f p out=.ok (o,q)→p<q∧q≤B.length∧out.length≤o.length∧o.length≤max most out.length
 | 0,p,out,o,q,h=>by cases h
 | f+1,p,out,o,q,h=>by
  rw [signsE_succ] at h
  unfold signK at h
  split at h
  ·cases h
  ·rename_i s p1 hs
   obtain ⟨s1,s2,s3⟩:=signE_pos h0 hl hs
   split at h
   ·split at h
    ·cases h
    ·rename_i o' ho
     have h1:=put_len ho
     have hl' : o'.length=out.length+1:=by rw [h1.1,List.length_append]; rfl
     have:=signs_pos h0 hl hd h
     omega
   ·split at h
    ·injection h with h; injection h with h1 h2; subst h1 h2; omega
    ·split at h
     ·cases h
     ·rename_i n p2 hn
      have hp2:=lenE_pos hn (by omega)
      split at h
      ·cases h
      ·split at h
       ·cases h
       ·rename_i d p3 hd3
        obtain ⟨d1,d2,d3⟩:=signE_pos h0 hd hd3
        split at h
        ·cases h
        ·rename_i back p4 hd4
         have hp4:=distE_pos hd4 (by omega)
         split at h
         ·cases h
         ·split at h
          ·cases h
          ·rename_i o' ho
           have h1:=copyE_len ho
           have h2:=copyE_most ho
           have:=signs_pos h0 hl hd h
           omega
theorem fix_sgs:(∀ i∈sgs fixL,i<320)∧(∀ i∈sgs fixD,i<320)∧totL fixL 15≤320∧totL fixD 15≤320 :=
 ⟨fun i hi=>by have:=sgs_lt fixL i hi; rw [fix_len] at this; omega,fun i hi=>by have:=sgs_lt fixD i hi; rw [fixD_len] at this; omega,by have:=tot_le fixL 15; rw [fix_len] at this; omega,by have:=tot_le fixD 15; rw [fixD_len] at this; omega⟩
theorem codeOk_codeV {ls:List Nat} (h1:∀ i∈sgs ls,i<320) (h2:totL ls 15≤320):codeOk (codeV ls):=by
 have e:codeV (lsOf (codeV ls))=codeV ls:=lsOf_code ls
 have e2:=(codeV_inj e).2
 refine ⟨e.symm,?_,?_⟩
 ·rw [e2]; exact h1
 ·rw [e2,sgs_len]; omega
theorem signs_agg (ls ds:List Nat):signsE (lsOf (.agg [(16,.blob (cntV ls)),(1,.sl 1 ((sgs ls).map iV))])) (lsOf (.agg [(16,.blob (cntV ds)),(1,.sl 1 ((sgs ds).map iV))]))=signsE ls ds:=signsE_lsOf ls ds
theorem door_thr {e:Nat} {st:St} {ids:List Nat} {r:Ret} (h1:st.hp.take 3=rawHp) (h2:∀ i∈ids,3≤i) (l0:lk st.fr 4=.ref 0 0 0) (l1:lk st.fr 5=.ref 1 0 0) (l2:lk st.fr 6=.ref 2 0 0)
  (hr:r.v=.tup [.con (.slice none 0 0),.int .i64 0,.int .i64 (e:Int)]) (hr2:r.hp=[]):doorT rawHp 4 5 6 rawCat r_iraw r (wrongV e) st ids:=by
 refine ⟨h1,h2,l0,l1,l2,_,⟨e,rfl,rfl⟩,?_⟩
 obtain ⟨v,hp,pre⟩:=r
 subst hr hr2
 simp only [fr3,r_iraw,go_sem,reduceDiv,reduceMod,↓reduceIte,reduceEqDiff,Nat.reduceBEq,reduceSub,Nat.reduceLT,reduceAdd,reduceLeDiff,reduceCtorEq,Int.reduceEq,Int.reduceNe,Int.reduceLT,Int.reduceLE,Int.reduceToNat]
structure RwI where
 f:Nat
 last:Nat
 p:Nat
 out:List UInt8
set_option maxHeartbeats 1000000 in
set_option maxHeartbeats 4000000 in
set_option maxRecDepth 20000 in
theorem iraw_ok {td:Td} (hTd:TdOk td):FnOk Tryd.prog 49 (irawS td):=by
 refine door_ok (hpD:=rawHp) (cat:=rawCat) Tryd.func49 rfl rfl rfl rfl (by decide) rfl rfl rfl (fnInB_ok (by kernel_rfl)) s_iraw (phRaw_ok hTd) (phRaw_px hTd) iraw_idle rfl (by decide) iraw_catch ?_
 intro xs hp r hs hp'
 unfold irawS at hs
 split at hs
 ·rename_i k ps m
  refine ⟨rfl,len_le (by kernel_rfl),?_⟩
  unfold rawE at hs
  generalize hRR:rawGo td (bitsOf (unB ps)) m.toNat (8 * (unB ps).length+1) 0 []=RR at hs
  obtain ⟨h1,h2,h3,h9⟩:inpOk k ps∧0≤m∧m≤100000000∧RR≠.error 9:=by
   cases RR with
   | error e=>injection hs with hs; subst hs; exact ⟨hp'.1,hp'.2.1,hp'.2.2.1,fun h=>hp'.2.2.2 (by injection h)⟩
   | ok q=>injection hs with hs; subst hs; exact ⟨hp'.1,hp'.2.1,hp'.2.2,fun h=>by cases h⟩
  obtain ⟨mo,rfl⟩:∃ p:Nat,m=p:=⟨m.toNat,by omega⟩
  have hps:=h1.1
  generalize unB ps=b at *
  subst hps
  have hl:=inp_len h1
  have thr:∀ {e:Nat} {st:St} {ids:List Nat},RR=.error e→st.hp.take 3=rawHp→(∀ i∈ids,3≤i)→lk st.fr 4=.ref 0 0 0→lk st.fr 5=.ref 1 0 0→lk st.fr 6=.ref 2 0 0→doorT rawHp 4 5 6 rawCat r_iraw r (wrongV e) st ids:=by
   intro e st ids hre q1 q2 q3 q4 q5
   subst hre
   injection hs with hs; subst hs
   exact door_thr q1 q2 q3 q4 q5 rfl rfl
  clear hp'
  simp only [doorS,rawHp,go_sem,reduceDiv,reduceMod,↓reduceIte,reduceEqDiff,Nat.reduceBEq,reduceSub,Nat.reduceLT,reduceAdd,reduceLeDiff,reduceCtorEq,Int.reduceEq,Int.reduceNe,Int.reduceLT,Int.reduceLE,Int.reduceToNat]
  refine loop3P [(4096+64 * 3+2,5,1)] [4,5,6,7,8] [0,1,2,3,4] (fun i:RwI=>⟨[(4,.ref 0 0 0),(5,.ref 1 0 0),(6,.ref 2 0 0),(7,.ref 3 0 0),(8,.int .i64 (i.last:Int))],[.cells 27 [(1,.con (.slice none 0 0))],.cells 3 [(1,.int .i64 0)],.cells 28 [(1,.int .i64 0)],.cells 121 [(1,.sl k (Bs b)),(1,.int .i64 (i.p:Int)),(1,.own 4 i.out.length),(1,.int .i64 (mo:Int))],.row 5 1 i.out.length (Bs i.out)]⟩) (fun i=>i.p≤8 * b.length∧8 * b.length+1≤i.p+i.f∧i.out.length≤100000000∧((i.last=0∧rawGo td (bitsOf b) mo i.f i.p i.out=RR)∨(i.last=1∧RR=.ok (i.out,i.p)))) (fun i=>i.f) ⟨8 * b.length+1,0,0,[]⟩ (by rfl) ⟨by simp only; omega,by simp only; omega,by simp,.inl ⟨rfl,hRR⟩⟩ ⟨rfl,by rfl⟩ (fun i hi R hR=>?_)
  obtain ⟨f,la,p,o1⟩:=i
  obtain ⟨i1,i2,i3,i4⟩:=hi
  simp only at i1 i2 i3 i4
  rcases i4 with ⟨rfl,i4⟩ | ⟨rfl,i4⟩
  ·cases f with
   | zero=>omega
   | succ f =>
    change rawK td (bitsOf b) mo (rawGo td (bitsOf b) mo f) p o1=RR at i4
    unfold rawK at i4
    rcases bit_cases b p with ⟨x,hx,hb1,hlt⟩ | ⟨hb1,hge⟩
    ·rw [hb1] at i4
     simp only at i4
     have hbp:inpOk k (Bs b)∧0≤(p:Int):=⟨h1,by omega⟩
     split at i4
     ·rename_i e hn
      simp only [b_iraw_0,ibitS,ibitX,inumS,inumX,unB_Bs,Bs_length,Bs_len,Int.toNat_natCast,Int.reduceToNat,hb1,hn,go_sem,reduceDiv,reduceMod,↓reduceIte,reduceEqDiff,Nat.reduceBEq,reduceSub,Nat.reduceLT,reduceAdd,reduceLeDiff,reduceCtorEq,Int.reduceEq,Int.reduceNe,Int.reduceLT,Int.reduceLE,Int.reduceToNat]
      exact ⟨hbp,⟨h1,by omega,by omega⟩,thr i4.symm rfl (by decide) rfl rfl rfl⟩
     ·rename_i ty p2 hn
      obtain ⟨n1,n2,n3⟩:=numE_ok hn
      rw [bitsOf_length] at n1
      have hty:ty<4:=by have:=numB_lt (bitsOf b) (p+1) 2; omega
      have hnp:inpOk k (Bs b)∧0≤((p+1:Nat):Int):=⟨h1,by omega⟩
      have hou:outOk o1.length o1.length (Bs o1) (mo:Int):=⟨by rw [unB_Bs],rfl,by omega,h3⟩
      unfold blockE at i4
      by_cases k0:ty=0
      ·have c0:decide ((ty:Int)=0)=true:=decide_eq_true (by omega)
       rw [if_pos k0] at i4
       split at i4
       ·rename_i e hst
        simp only [b_iraw_0,ibitS,ibitX,inumS,inumX,unB_Bs,Bs_length,Bs_len,Int.toNat_natCast,Int.reduceToNat,istorS,istorX,hb1,hn,hst,c0,go_sem,reduceDiv,reduceMod,↓reduceIte,reduceEqDiff,Nat.reduceBEq,reduceSub,Nat.reduceLT,reduceAdd,reduceLeDiff,reduceCtorEq,Int.reduceEq,Int.reduceNe,Int.reduceLT,Int.reduceLE,Int.reduceToNat]
        exact ⟨hbp,hnp,⟨h1,by omega,by omega,hou,i3⟩,thr i4.symm rfl (by decide) rfl rfl rfl⟩
       ·rename_i o p3 hst
        obtain ⟨z1,z2,z3,z4⟩:=stored_pos hst
        rw [bitsOf_length] at z2
        have ev:o1.length+(o.length - o1.length)=o.length:=by omega
        have nx:(x=0∧rawGo td (bitsOf b) mo f p3 o=RR)∨(x=1∧RR=.ok (o,p3)):=by
         by_cases hx1:x=1
         ·rw [if_pos hx1] at i4; exact .inr ⟨hx1,i4.symm⟩
         ·rw [if_neg hx1] at i4; exact .inl ⟨by omega,i4⟩
        simp only [b_iraw_0,ibitS,ibitX,inumS,inumX,unB_Bs,Bs_length,Bs_len,Int.toNat_natCast,Int.reduceToNat,istorS,istorX,hb1,hn,hst,c0,ev,go_sem,reduceDiv,reduceMod,↓reduceIte,reduceEqDiff,Nat.reduceBEq,reduceSub,Nat.reduceLT,reduceAdd,reduceLeDiff,reduceCtorEq,Int.reduceEq,Int.reduceNe,Int.reduceLT,Int.reduceLE,Int.reduceToNat]
        refine ⟨hbp,hnp,⟨h1,by omega,hou⟩,hR _ ⟨f,x,p3,o⟩ ⟨by simp only; omega,by simp only; omega,by simp only; omega,nx⟩ (by simp only; omega) rfl⟩
      ·have c0:decide ((ty:Int)=0)=false:=decide_eq_false (by omega)
       rw [if_neg k0] at i4
       by_cases k1:ty=1
       ·have c1:decide ((ty:Int)=1)=true:=decide_eq_true (by omega)
        rw [if_pos k1] at i4
        have q1:codeOk (codeV fixL):=codeOk_codeV fix_sgs.1 fix_sgs.2.2.1
        have q2:codeOk (codeV fixD):=codeOk_codeV fix_sgs.2.1 fix_sgs.2.2.2
        split at i4
        ·rename_i e hst
         simp only [b_iraw_0,ibitS,ibitX,inumS,inumX,unB_Bs,Bs_length,Bs_len,Int.toNat_natCast,Int.reduceToNat,ifixS,isignsS,isignsX,codeV,signs_agg,hb1,hn,hst,c0,c1,go_sem,reduceDiv,reduceMod,↓reduceIte,reduceEqDiff,Nat.reduceBEq,reduceSub,Nat.reduceLT,reduceAdd,reduceLeDiff,reduceCtorEq,Int.reduceEq,Int.reduceNe,Int.reduceLT,Int.reduceLE,Int.reduceToNat]
         exact ⟨hbp,hnp,⟨h1,by omega,by omega,hou,i3,q1,q2⟩,thr i4.symm rfl (by decide) rfl rfl rfl⟩
        ·rename_i o p3 hst
         obtain ⟨z1,z2,z3,z4⟩:=signs_pos (by omega) fix_sgs.1 fix_sgs.2.1 hst
         rw [bitsOf_length] at z2
         have ev:o1.length+(o.length - o1.length)=o.length:=by omega
         have nx:(x=0∧rawGo td (bitsOf b) mo f p3 o=RR)∨(x=1∧RR=.ok (o,p3)):=by
          by_cases hx1:x=1
          ·rw [if_pos hx1] at i4; exact .inr ⟨hx1,i4.symm⟩
          ·rw [if_neg hx1] at i4; exact .inl ⟨by omega,i4⟩
         simp only [b_iraw_0,ibitS,ibitX,inumS,inumX,unB_Bs,Bs_length,Bs_len,Int.toNat_natCast,Int.reduceToNat,ifixS,isignsS,isignsX,codeV,signs_agg,hb1,hn,hst,c0,c1,ev,go_sem,reduceDiv,reduceMod,↓reduceIte,reduceEqDiff,Nat.reduceBEq,reduceSub,Nat.reduceLT,reduceAdd,reduceLeDiff,reduceCtorEq,Int.reduceEq,Int.reduceNe,Int.reduceLT,Int.reduceLE,Int.reduceToNat]
         refine ⟨hbp,hnp,⟨h1,by omega,by omega,hou,q1,q2⟩,hR _ ⟨f,x,p3,o⟩ ⟨by simp only; omega,by simp only; omega,by simp only; omega,nx⟩ (by simp only; omega) rfl⟩
       ·have c1:decide ((ty:Int)=1)=false:=decide_eq_false (by omega)
        rw [if_neg k1] at i4
        by_cases k2:ty=2
        ·have c2:decide ((ty:Int)=2)=true:=decide_eq_true (by omega)
         rw [if_pos k2] at i4
         split at i4
         ·rename_i e hst
          split at hst
          ·rename_i e' htd
           injection hst with hst; subst hst
           simp only [b_iraw_0,ibitS,ibitX,inumS,inumX,unB_Bs,Bs_length,Bs_len,Int.toNat_natCast,Int.reduceToNat,itoldS,itoldX,hb1,hn,htd,c0,c1,c2,go_sem,reduceDiv,reduceMod,↓reduceIte,reduceEqDiff,Nat.reduceBEq,reduceSub,Nat.reduceLT,reduceAdd,reduceLeDiff,reduceCtorEq,Int.reduceEq,Int.reduceNe,Int.reduceLT,Int.reduceLE,Int.reduceToNat]
           exact ⟨hbp,hnp,⟨h1,by omega,by omega,fun h=>h9 (by rw [← i4,h])⟩,thr i4.symm rfl (by decide) rfl rfl rfl⟩
          ·rename_i cc p4 htd
           obtain ⟨ls,ds⟩:=cc
           obtain ⟨y1,y2,y3,y4⟩:=hTd.pos (by rw [bitsOf_length]; omega) htd
           rw [bitsOf_length] at y2
           have q1:codeOk (codeV ls):=codeOk_codeV (fun i hi=>by have:=sgs_lt ls i hi; omega) (by have:=tot_le ls 15; omega)
           have q2:codeOk (codeV ds):=codeOk_codeV (fun i hi=>by have:=sgs_lt ds i hi; omega) (by have:=tot_le ds 15; omega)
           simp only [b_iraw_0,ibitS,ibitX,inumS,inumX,unB_Bs,Bs_length,Bs_len,Int.toNat_natCast,Int.reduceToNat,itoldS,itoldX,isignsS,isignsX,codeV,signs_agg,hb1,hn,htd,hst,c0,c1,c2,go_sem,reduceDiv,reduceMod,↓reduceIte,reduceEqDiff,Nat.reduceBEq,reduceSub,Nat.reduceLT,reduceAdd,reduceLeDiff,reduceCtorEq,Int.reduceEq,Int.reduceNe,Int.reduceLT,Int.reduceLE,Int.reduceToNat]
           exact ⟨hbp,hnp,⟨h1,by omega⟩,⟨h1,by omega,by omega,hou,i3,q1,q2⟩,thr i4.symm rfl (by decide) rfl rfl rfl⟩
         ·rename_i o p3 hst
          split at hst
          ·cases hst
          ·rename_i cc p4 htd
           obtain ⟨ls,ds⟩:=cc
           obtain ⟨y1,y2,y3,y4⟩:=hTd.pos (by rw [bitsOf_length]; omega) htd
           rw [bitsOf_length] at y2
           have w1:∀ i∈sgs ls,i<320:=fun i hi=>by have:=sgs_lt ls i hi; omega
           have w2:∀ i∈sgs ds,i<320:=fun i hi=>by have:=sgs_lt ds i hi; omega
           have q1:codeOk (codeV ls):=codeOk_codeV w1 (by have:=tot_le ls 15; omega)
           have q2:codeOk (codeV ds):=codeOk_codeV w2 (by have:=tot_le ds 15; omega)
           obtain ⟨z1,z2,z3,z4⟩:=signs_pos (by omega) w1 w2 hst
           rw [bitsOf_length] at z2
           have ev:o1.length+(o.length - o1.length)=o.length:=by omega
           have nx:(x=0∧rawGo td (bitsOf b) mo f p3 o=RR)∨(x=1∧RR=.ok (o,p3)):=by
            by_cases hx1:x=1
            ·rw [if_pos hx1] at i4; exact .inr ⟨hx1,i4.symm⟩
            ·rw [if_neg hx1] at i4; exact .inl ⟨by omega,i4⟩
           simp only [b_iraw_0,ibitS,ibitX,inumS,inumX,unB_Bs,Bs_length,Bs_len,Int.toNat_natCast,Int.reduceToNat,itoldS,itoldX,isignsS,isignsX,codeV,signs_agg,hb1,hn,htd,hst,c0,c1,c2,ev,go_sem,reduceDiv,reduceMod,↓reduceIte,reduceEqDiff,Nat.reduceBEq,reduceSub,Nat.reduceLT,reduceAdd,reduceLeDiff,reduceCtorEq,Int.reduceEq,Int.reduceNe,Int.reduceLT,Int.reduceLE,Int.reduceToNat]
           refine ⟨hbp,hnp,⟨h1,by omega⟩,⟨h1,by omega,by omega,hou,q1,q2⟩,hR _ ⟨f,x,p3,o⟩ ⟨by simp only; omega,by simp only; omega,by simp only; omega,nx⟩ (by simp only; omega) rfl⟩
        ·have c2:decide ((ty:Int)=2)=false:=decide_eq_false (by omega)
         rw [if_neg k2] at i4
         simp only [b_iraw_0,ibitS,ibitX,inumS,inumX,unB_Bs,Bs_length,Bs_len,Int.toNat_natCast,Int.reduceToNat,ifailX,hb1,hn,c0,c1,c2,go_sem,reduceDiv,reduceMod,↓reduceIte,reduceEqDiff,Nat.reduceBEq,reduceSub,Nat.reduceLT,reduceAdd,reduceLeDiff,reduceCtorEq,Int.reduceEq,Int.reduceNe,Int.reduceLT,Int.reduceLE,Int.reduceToNat]
         exact ⟨hbp,hnp,thr i4.symm rfl (by decide) rfl rfl rfl⟩
    ·rw [hb1] at i4
     simp only at i4
     simp only [b_iraw_0,ibitS,ibitX,inumS,inumX,unB_Bs,Bs_length,Bs_len,Int.toNat_natCast,Int.reduceToNat,hb1,go_sem,reduceDiv,reduceMod,↓reduceIte,reduceEqDiff,Nat.reduceBEq,reduceSub,Nat.reduceLT,reduceAdd,reduceLeDiff,reduceCtorEq,Int.reduceEq,Int.reduceNe,Int.reduceLT,Int.reduceLE,Int.reduceToNat]
     exact ⟨⟨h1,by omega,by omega⟩,thr i4.symm rfl (by decide) rfl rfl rfl⟩
  ·subst i4
   injection hs with hs; subst hs
   have e1:((p:Int)+7).tdiv 8=(((p+7) / 8:Nat):Int):=by rw [Int.tdiv_eq_ediv_of_nonneg (by omega)]; omega
   have c9:decide (((1:Nat):Int)=0)=false:=rfl
   simp only [b_iraw_0,c9,go_sem,reduceDiv,reduceMod,↓reduceIte,reduceEqDiff,Nat.reduceBEq,reduceSub,Nat.reduceLT,reduceAdd,reduceLeDiff,reduceCtorEq,Int.reduceEq,Int.reduceNe,Int.reduceLT,Int.reduceLE,Int.reduceToNat]
   have q1:inI ((p:Int)+7):=by (first | omega | (simp only [lenOk,bytesOk,inI,IntKind.bits,List.length_append,Bs_len,List.length_cons,List.length_nil,List.length_map,List.length_take,List.length_drop,List.length_replicate]; omega))
   have q2:inI ((((p+7) / 8:Nat)):Int):=by (first | omega | (simp only [lenOk,bytesOk,inI,IntKind.bits,List.length_append,Bs_len,List.length_cons,List.length_nil,List.length_map,List.length_take,List.length_drop,List.length_replicate]; omega))
   unfold t_iraw_0
   rw [x_seq,x_draw,if_pos rfl]
   refine all3_tab (σ:=sgT [[.top,.top,.top,.top,.ref 0 0 0,.ref 1 0 0,.ref 2 0 0,.ref 3 0 0,.int .i64 1,.top,.top,.top,.top,.top,.top,.int .i64 1],[.bool false,.top,.top,.top,.top,.top,.top,.top,.top,.top,.top,.top,.top,.top,.top,.top]]
    [(some 45,.ref 3 0 0),(some 46,.ref 3 0 0),(some 47,.ref 3 2 0),(some 48,.own 4 o1.length),(some 49,.ref 3 0 0),(some 50,.ref 3 0 0),(some 51,.ref 3 0 0),(some 52,.ref 3 1 0),(some 53,.int .i64 (p:Int)),(some 54,.int .i64 ((p:Int)+7)),(some 55,.int .i64 (((p+7) / 8:Nat):Int)),(none,.top),(none,.top),(none,.top)]
    (fun dn=>[.cells 27 [(1,if ((dn &&& 2048) == 0)=true then .con (.slice none 0 0) else .own 4 o1.length)],.cells 3 [(1,.int .i64 (if ((dn &&& 4096) == 0)=true then 0 else (((p+7) / 8:Nat):Int)))],.cells 28 [(1,.int .i64 0)],.cells 121 [(1,.sl k (Bs b)),(1,.int .i64 (p:Int)),(1,.own 4 o1.length),(1,.int .i64 (mo:Int))],.row 5 1 o1.length (Bs o1)]))
    (r:=[[1,16],[3,17,48],[7,19,49,112],[15,23,51,113,240],[31,55,115,241,496,2063],[63,119,243,497,1008,2079],[127,247,499,1009,2032,2111],[255,503,1011,2033,2175],[511,1015,2035,2303],[1023,2039,2559],[2047,3071],[4095],[8191],[16383]]) (L:=[0]) ?_ 0 (List.mem_cons_self ..)
   simp only [tab3,lev3,lst3,memB,sgT,frT,r_iraw,e1,List.map,Nat.reduceAnd,Nat.reduceOr,Nat.reducePow,q1,q2,and_self,go_sem,reduceDiv,reduceMod,↓reduceIte,reduceEqDiff,Nat.reduceBEq,reduceSub,Nat.reduceLT,reduceAdd,reduceLeDiff,reduceCtorEq,Int.reduceEq,Int.reduceNe,Int.reduceLT,Int.reduceLE,Int.reduceToNat]
 ·cases hs
def irawF (td:Td):Spec:=fun xs hp=>match xs,hp with
 | [.sl k ps,.int .i64 m],[]=>match rawE td (unB ps) m.toNat with
  | .ok (o,n)=>some ⟨.tup [.sl 1 (Bs o),.int .i64 (n:Int),.int .i64 0],[],inpOk k ps∧0≤m∧m≤100000000⟩
  | .error e=>some ⟨.tup [.sl 1 [],.int .i64 0,.int .i64 (e:Int)],[],inpOk k ps∧0≤m∧m≤100000000∧e≠9⟩
 | _,_=>none
theorem irawF_ok {td:Td} (hTd:TdOk td):FnOk Tryd.prog 49 (irawF td):=(iraw_ok hTd).freezeD fun xs hp r' hs hp' => by
 unfold irawF at hs
 split at hs
 ·rename_i k ps m
  split at hs
  ·rename_i o n hr
   injection hs with hs; subst hs
   refine ⟨rfl,⟨.tup [.own 0 o.length,.int .i64 (n:Int),.int .i64 0],[.row 5 1 o.length (Bs o)],inpOk k ps∧0≤m∧m≤100000000⟩,by unfold irawS; simp only [hr],hp',rfl,?_,rfl,rfl⟩
   simp [fzV,fzD]
  ·rename_i e hr
   injection hs with hs; subst hs
   refine ⟨rfl,⟨.tup [.con (.slice none 0 0),.int .i64 0,.int .i64 (e:Int)],[],inpOk k ps∧0≤m∧m≤100000000∧e≠9⟩,by unfold irawS; simp only [hr],hp',rfl,?_,rfl,rfl⟩
   simp [fzV,fzD]
 ·cases hs
def zopenS (td:Td):Spec:=fun xs hp=>match xs,hp with
 | [.sl k ps,.int .i64 m],[]=>match zopenE td (unB ps) m.toNat with
  | .ok (o,n)=>some ⟨.tup [.sl 1 (Bs o),.int .i64 (n:Int),.int .i64 0],[],inpOk k ps∧0≤m∧m≤100000000⟩
  | .error e=>some ⟨.tup [.con (.slice none 0 0),.int .i64 0,.int .i64 (e:Int)],[],inpOk k ps∧0≤m∧m≤100000000∧e≠9∧e≠0⟩
 | _,_=>none
theorem and15:∀ k:Nat,k<256→bits BinOp.and IntKind.u8 (k:Int) 15=((k % 16:Nat):Int):=by decide +kernel
theorem and32:∀ k:Nat,k<256→bits BinOp.and IntKind.u8 (k:Int) 32=((k / 32 % 2 * 32:Nat):Int):=by decide +kernel
theorem block_pos {td:Td} (hTd:TdOk td) {B:List Bool} {most ty p q:Nat} {out o:List UInt8} (hp:p≤B.length) (h:blockE td B most ty p out=.ok (o,q)):p≤q∧q≤B.length∧out.length≤o.length∧o.length≤max most out.length:=by
 unfold blockE at h
 split at h
 ·exact stored_pos h
 ·split at h
  ·obtain ⟨z1,z2,z3⟩:=signs_pos (N:=320) (by omega) fix_sgs.1 fix_sgs.2.1 h
   exact ⟨by omega,z2,z3⟩
  ·split at h
   ·split at h
    ·cases h
    ·rename_i c p1 ht
     obtain ⟨ls,ds⟩:=c
     obtain ⟨y1,y2,_,_⟩:=hTd.pos hp ht
     obtain ⟨z1,z2,z3⟩:=signs_pos (N:=ls.length+ds.length+1) (by omega) (fun i hi=>by have:=sgs_lt ls i hi; omega) (fun i hi=>by have:=sgs_lt ds i hi; omega) h
     exact ⟨by omega,z2,z3⟩
   ·cases h
theorem rawGo_pos {td:Td} (hTd:TdOk td) {B:List Bool} {most:Nat}:∀ {k p:Nat} {out o:List UInt8} {q:Nat},p≤B.length→rawGo td B most k p out=.ok (o,q)→q≤B.length∧o.length≤max most out.length
 | 0,p,out,o,q,_,h=>by cases h
 | k+1,p,out,o,q,hp,h=>by
  rw [rawGo] at h
  unfold rawK at h
  split at h
  ·cases h
  ·rename_i last p1 h1
   obtain ⟨a1,a2⟩:=bitE_pos h1
   split at h
   ·cases h
   ·rename_i ty p2 h2
    obtain ⟨b1,_,b3⟩:=numE_ok h2
    split at h
    ·cases h
    ·rename_i o1 p3 h3
     obtain ⟨c1,c2,c3,c4⟩:=block_pos hTd (by omega) h3
     split at h
     ·injection h with h; injection h with e1 e2
      subst e1 e2
      exact ⟨c2,c4⟩
     ·obtain ⟨d1,d2⟩:=rawGo_pos hTd c2 h
      exact ⟨d1,by omega⟩
theorem rawE_pos {td:Td} (hTd:TdOk td) {b o:List UInt8} {most n:Nat} (h:rawE td b most=.ok (o,n)):n≤b.length∧o.length≤most:=by
 unfold rawE at h
 cases hR:rawGo td (bitsOf b) most (8 * b.length+1) 0 [] with
 | error e=>rw [hR] at h; cases h
 | ok w =>
  obtain ⟨o',p⟩:=w
  rw [hR] at h
  injection h with h; injection h with h1 h2
  subst h1 h2
  obtain ⟨d1,d2⟩:=rawGo_pos hTd (Nat.zero_le _) hR
  rw [bitsOf_length] at d1
  simp only [List.length_nil] at d2
  exact ⟨by omega,by omega⟩
theorem or_b (x y:Nat) (hx:x<256) (hy:y<256):bits BinOp.or IntKind.i64 ((x:Int) * 2 ^ 8) (y:Int)=((x * 256+y:Nat):Int):=by
 rw [show (x:Int) * 2 ^ 8=((x * 256:Nat):Int) by omega,i64_or _ _ (by omega) (by omega),nat_join 8 (x * 256) y (by omega) (by omega)]
set_option maxRecDepth 8000 in
theorem zopen_ok {td:Td} (hTd:TdOk td):FnOk Tryd.prog 27 (zopenS td):=by
 refine fn_slim2 Tryd.func27 s_zopen (Φ:=(phiL [(49,[],irawF td),(32,[],adlerS),(31,[],zfourS)])) (phi_cons (irawF_ok hTd) (by kernel_rfl) (phi_cons adler_ok (by kernel_rfl) (phi_cons zfour_ok (by kernel_rfl) phi_nil))) ?_
 intro xs hp r hs hp'
 unfold zopenS at hs
 split at hs
 ·rename_i k ps m
  have hP:inpOk k ps∧0≤m∧m≤100000000∧∀ e,zopenE td (unB ps) m.toNat=.error e→e≠9∧e≠0:=by
   split at hs
   ·rename_i o n hz
    injection hs with hs; subst hs
    exact ⟨hp'.1,hp'.2.1,hp'.2.2,fun e h=>by rw [hz] at h; cases h⟩
   ·rename_i e hz
    injection hs with hs; subst hs
    exact ⟨hp'.1,hp'.2.1,hp'.2.2.1,fun e' h=>by rw [hz] at h; injection h with h; subst h; exact hp'.2.2.2⟩
  obtain ⟨h1,h2,h3,h9⟩:=hP
  have hL:=h1.2.1
  have hk:=h1.2.2
  have hbs:=h1.1
  generalize unB ps=b at *
  subst hbs
  obtain ⟨m,rfl⟩:=Int.eq_ofNat_of_zero_le h2
  rw [Int.toNat_natCast] at hs h9
  refine ⟨len_le (by kernel_rfl),?_⟩
  by_cases hl2:b.length<2
  ·have c1:decide ((b.length:Int)<2)=true:=decide_eq_true (by omega)
   have hz:zopenE td b m=.error 3:=if_pos hl2
   rw [hz] at hs
   injection hs with hs; subst hs
   simp only [c_zopen,r_zopen,c1,Bs_len,go_sem,reduceDiv,reduceMod,↓reduceIte,reduceEqDiff,Nat.reduceBEq,reduceSub,Nat.reduceLT,reduceAdd,reduceLeDiff,reduceCtorEq,Int.reduceEq,Int.reduceNe,Int.reduceLT,Int.reduceLE,Int.reduceToNat]
  ·have c1:decide ((b.length:Int)<2)=false:=decide_eq_false (by omega)
   obtain rfl:=sl_k1 hk (by omega)
   have hx:(b.getD 0 0).toNat<256:=(b.getD 0 0).toNat_lt
   have hy:(b.getD 1 0).toNat<256:=(b.getD 1 0).toNat_lt
   have a1:=and15 _ hx
   have a3:=and32 _ hy
   have a5:=or_b (b.getD 0 0).toNat (b.getD 1 0).toNat (by omega) hy
   have hBad:headBad (b.getD 0 0).toNat (b.getD 1 0).toNat=true→zopenE td b m=.error 4:=fun h=>by unfold zopenE; rw [if_neg hl2,if_pos h]
   generalize hX:(b.getD 0 0).toNat=x at *
   generalize hY:(b.getD 1 0).toNat=y at *
   by_cases x1:x % 16=8
   ·have c2:decide (((x % 16:Nat):Int)=8)=true:=decide_eq_true (by omega)
    by_cases x2:7<x / 16
    ·have c3:decide (7<(x:Int) / 2 ^ 4)=true:=decide_eq_true (by omega)
     rw [hBad (by simp [headBad,x2])] at hs
     injection hs with hs; subst hs
     simp only [c_zopen,r_zopen,c1,a1,a3,a5,c2,c3,hX,hY,Bs_len,Int.toNat_natCast,Int.reduceToNat,go_sem,reduceDiv,reduceMod,↓reduceIte,reduceEqDiff,Nat.reduceBEq,reduceSub,Nat.reduceLT,reduceAdd,reduceLeDiff,reduceCtorEq,Int.reduceEq,Int.reduceNe,Int.reduceLT,Int.reduceLE,Int.reduceToNat]
     (repeat' apply And.intro) <;> first | exact h1 | omega | (first | omega | (simp only [lenOk,bytesOk,inI,IntKind.bits,List.length_append,Bs_len,List.length_cons,List.length_nil,List.length_map,List.length_take,List.length_drop,List.length_replicate]; omega)) | trivial
    ·have c3:decide (7<(x:Int) / 2 ^ 4)=false:=decide_eq_false (by omega)
     by_cases x3:y / 32 % 2=1
     ·have c4:decide (((y / 32 % 2 * 32:Nat):Int)=0)=false:=decide_eq_false (by omega)
      rw [hBad (by simp [headBad,x3])] at hs
      injection hs with hs; subst hs
      simp only [c_zopen,r_zopen,c1,a1,a3,a5,c2,c3,c4,hX,hY,Bs_len,Int.toNat_natCast,Int.reduceToNat,go_sem,reduceDiv,reduceMod,↓reduceIte,reduceEqDiff,Nat.reduceBEq,reduceSub,Nat.reduceLT,reduceAdd,reduceLeDiff,reduceCtorEq,Int.reduceEq,Int.reduceNe,Int.reduceLT,Int.reduceLE,Int.reduceToNat]
      (repeat' apply And.intro) <;> first | exact h1 | omega | (first | omega | (simp only [lenOk,bytesOk,inI,IntKind.bits,List.length_append,Bs_len,List.length_cons,List.length_nil,List.length_map,List.length_take,List.length_drop,List.length_replicate]; omega)) | trivial
     ·have c4:decide (((y / 32 % 2 * 32:Nat):Int)=0)=true:=decide_eq_true (by omega)
      by_cases x4:(x * 256+y) % 31=0
      ·have c5:decide (((x * 256+y:Nat):Int).tmod 31=0)=true:=by rw [show ((x * 256+y:Nat):Int).tmod 31=(((x * 256+y) % 31:Nat):Int) from rfl,x4]; rfl
       have hG:zopenE td b m=(match rawE td (b.drop 2) m with
        | .error e=>.error e
        | .ok (x,n)=>if (b.drop (2+n)).length<4 then .error 3 else if tail4 (adlN x)=(b.drop (2+n)).take 4 then .ok (x,n+6) else .error 5):=by
        have hh:¬ headBad x y=true:=by simp [headBad,x1,x2,x3,x4]
        unfold zopenE
        rw [if_neg hl2,hX,hY,if_neg hh]
        rfl
       have e2:List.drop 2 (List.take b.length (Bs b))=Bs (b.drop 2):=by rw [List.take_of_length_le (by rw [Bs_length]; omega)]; simp [Bs]
       have hI:inpOk 1 (Bs (b.drop 2)):=⟨by rw [unB_Bs],by rw [unB_Bs,List.length_drop]; omega,.inl rfl⟩
       cases hR:rawE td (b.drop 2) m with
       | error e =>
        rw [hR] at hG
        simp only at hG
        rw [hG] at hs
        injection hs with hs; subst hs
        obtain ⟨he,e0⟩:=h9 e hG
        have c6:decide ((e:Int)=0)=false:=decide_eq_false (by omega)
        simp only [c_zopen,r_zopen,c1,a1,a3,a5,c2,c3,c4,c5,c6,e2,hX,hY,irawF,hR,unB_Bs,Bs_len,Int.toNat_natCast,Int.reduceToNat,go_sem,reduceDiv,reduceMod,↓reduceIte,reduceEqDiff,Nat.reduceBEq,reduceSub,Nat.reduceLT,reduceAdd,reduceLeDiff,reduceCtorEq,Int.reduceEq,Int.reduceNe,Int.reduceLT,Int.reduceLE,Int.reduceToNat]
        exact ⟨by omega,by omega,by omega,by omega,by (first | omega | (simp only [lenOk,bytesOk,inI,IntKind.bits,List.length_append,Bs_len,List.length_cons,List.length_nil,List.length_map,List.length_take,List.length_drop,List.length_replicate]; omega)),by (first | omega | (simp only [lenOk,bytesOk,inI,IntKind.bits,List.length_append,Bs_len,List.length_cons,List.length_nil,List.length_map,List.length_take,List.length_drop,List.length_replicate]; omega)),by omega,by (first | omega | (simp only [lenOk,bytesOk,inI,IntKind.bits,List.length_append,Bs_len,List.length_cons,List.length_nil,List.length_map,List.length_take,List.length_drop,List.length_replicate]; omega)),⟨by omega,by omega⟩,hI,by omega,by omega,he⟩
       | ok w =>
        obtain ⟨o,n⟩:=w
        rw [hR] at hG
        simp only at hG
        obtain ⟨n1,n2⟩:=rawE_pos hTd hR
        rw [List.length_drop] at n1
        have e3:((2:Int)+(n:Int)).toNat=2+n:=by omega
        have e4:List.drop (2+n) (List.take b.length (Bs b))=Bs (b.drop (2+n)):=by rw [List.take_of_length_le (by rw [Bs_length]; omega)]; simp [Bs]
        have e5:List.take 4 (Bs (b.drop (2+n)))=Bs ((b.drop (2+n)).take 4):=by simp [Bs]
        have hA:=adlN_lt o
        by_cases hc:(b.drop (2+n)).length<4
        ·have c6:decide (((b.drop (2+n)).length:Int)<4)=true:=decide_eq_true (by omega)
         rw [if_pos hc] at hG
         rw [hG] at hs
         injection hs with hs; subst hs
         simp only [c_zopen,r_zopen,c1,a1,a3,a5,c2,c3,c4,c5,e2,e3,e4,e5,c6,hX,hY,irawF,adlerS,zfourS,hR,unB_Bs,Bs_len,Int.toNat_natCast,Int.reduceToNat,go_sem,reduceDiv,reduceMod,↓reduceIte,reduceEqDiff,Nat.reduceBEq,reduceSub,Nat.reduceLT,reduceAdd,reduceLeDiff,reduceCtorEq,Int.reduceEq,Int.reduceNe,Int.reduceLT,Int.reduceLE,Int.reduceToNat]
         exact ⟨by omega,by omega,by omega,by omega,by (first | omega | (simp only [lenOk,bytesOk,inI,IntKind.bits,List.length_append,Bs_len,List.length_cons,List.length_nil,List.length_map,List.length_take,List.length_drop,List.length_replicate]; omega)),by (first | omega | (simp only [lenOk,bytesOk,inI,IntKind.bits,List.length_append,Bs_len,List.length_cons,List.length_nil,List.length_map,List.length_take,List.length_drop,List.length_replicate]; omega)),by omega,by (first | omega | (simp only [lenOk,bytesOk,inI,IntKind.bits,List.length_append,Bs_len,List.length_cons,List.length_nil,List.length_map,List.length_take,List.length_drop,List.length_replicate]; omega)),⟨by omega,by omega⟩,⟨hI,by omega,by omega⟩,by (first | omega | (simp only [lenOk,bytesOk,inI,IntKind.bits,List.length_append,Bs_len,List.length_cons,List.length_nil,List.length_map,List.length_take,List.length_drop,List.length_replicate]; omega)),by omega,by omega,by omega⟩
        ·have c6:decide (((b.drop (2+n)).length:Int)<4)=false:=decide_eq_false (by omega)
         have hl4:((b.drop (2+n)).take 4).length=4:=by rw [List.length_take]; omega
         rw [if_neg hc] at hG
         simp only [c_zopen,r_zopen,c1,a1,a3,a5,c2,c3,c4,c5,e2,e3,e4,e5,c6,hl4,hX,hY,irawF,adlerS,zfourS,hR,unB_Bs,Bs_len,Int.toNat_natCast,Int.reduceToNat,go_sem,reduceDiv,reduceMod,↓reduceIte,reduceEqDiff,Nat.reduceBEq,reduceSub,Nat.reduceLT,reduceAdd,reduceLeDiff,reduceCtorEq,Int.reduceEq,Int.reduceNe,Int.reduceLT,Int.reduceLE,Int.reduceToNat]
         simp only [unV_U]
         have h40:(tail4 (adlN o)).length=4:=rfl
         refine ⟨by omega,by omega,by omega,by omega,by (first | omega | (simp only [lenOk,bytesOk,inI,IntKind.bits,List.length_append,Bs_len,List.length_cons,List.length_nil,List.length_map,List.length_take,List.length_drop,List.length_replicate]; omega)),by (first | omega | (simp only [lenOk,bytesOk,inI,IntKind.bits,List.length_append,Bs_len,List.length_cons,List.length_nil,List.length_map,List.length_take,List.length_drop,List.length_replicate]; omega)),by omega,by (first | omega | (simp only [lenOk,bytesOk,inI,IntKind.bits,List.length_append,Bs_len,List.length_cons,List.length_nil,List.length_map,List.length_take,List.length_drop,List.length_replicate]; omega)),⟨by omega,by omega⟩,⟨hI,by omega,by omega⟩,by (first | omega | (simp only [lenOk,bytesOk,inI,IntKind.bits,List.length_append,Bs_len,List.length_cons,List.length_nil,List.length_map,List.length_take,List.length_drop,List.length_replicate]; omega)),⟨by omega,by omega,by omega⟩,⟨.inl trivial,by omega⟩,⟨by omega,by omega⟩,by omega,⟨trivial,trivial,h40,hl4⟩,fun h=>?_,fun h=>?_⟩
         ·have hne:¬ tail4 (adlN o)=(b.drop (2+n)).take 4:=by simpa using h
          rw [if_neg hne] at hG
          rw [hG] at hs
          injection hs with hs; subst hs
          exact ⟨rfl,rfl⟩
         ·have heq:tail4 (adlN o)=(b.drop (2+n)).take 4:=by simpa using h
          rw [if_pos heq] at hG
          rw [hG] at hs
          injection hs with hs; subst hs
          exact ⟨by (first | omega | (simp only [lenOk,bytesOk,inI,IntKind.bits,List.length_append,Bs_len,List.length_cons,List.length_nil,List.length_map,List.length_take,List.length_drop,List.length_replicate]; omega)),rfl,rfl⟩
      ·have c5:decide (((x * 256+y:Nat):Int).tmod 31=0)=false:=by rw [show ((x * 256+y:Nat):Int).tmod 31=(((x * 256+y) % 31:Nat):Int) from rfl]; exact decide_eq_false (by omega)
       rw [hBad (by simp [headBad,x4])] at hs
       injection hs with hs; subst hs
       simp only [c_zopen,r_zopen,c1,a1,a3,a5,c2,c3,c4,c5,hX,hY,Bs_len,Int.toNat_natCast,Int.reduceToNat,go_sem,reduceDiv,reduceMod,↓reduceIte,reduceEqDiff,Nat.reduceBEq,reduceSub,Nat.reduceLT,reduceAdd,reduceLeDiff,reduceCtorEq,Int.reduceEq,Int.reduceNe,Int.reduceLT,Int.reduceLE,Int.reduceToNat]
       (repeat' apply And.intro) <;> first | exact h1 | omega | (first | omega | (simp only [lenOk,bytesOk,inI,IntKind.bits,List.length_append,Bs_len,List.length_cons,List.length_nil,List.length_map,List.length_take,List.length_drop,List.length_replicate]; omega)) | trivial
   ·have c2:decide (((x % 16:Nat):Int)=8)=false:=decide_eq_false (by omega)
    rw [hBad (by simp [headBad,x1])] at hs
    injection hs with hs; subst hs
    simp only [c_zopen,r_zopen,c1,a1,a3,a5,c2,hX,hY,Bs_len,Int.toNat_natCast,Int.reduceToNat,go_sem,reduceDiv,reduceMod,↓reduceIte,reduceEqDiff,Nat.reduceBEq,reduceSub,Nat.reduceLT,reduceAdd,reduceLeDiff,reduceCtorEq,Int.reduceEq,Int.reduceNe,Int.reduceLT,Int.reduceLE,Int.reduceToNat]
    (repeat' apply And.intro) <;> first | exact h1 | omega | (first | omega | (simp only [lenOk,bytesOk,inI,IntKind.bits,List.length_append,Bs_len,List.length_cons,List.length_nil,List.length_map,List.length_take,List.length_drop,List.length_replicate]; omega)) | trivial
 ·cases hs
theorem zopen_pos {td:Td} (hTd:TdOk td) {b o:List UInt8} {most n:Nat} (h:zopenE td b most=.ok (o,n)):n≤b.length∧o.length≤most:=by
 unfold zopenE at h
 split at h
 ·cases h
 ·rename_i hl
  split at h
  ·cases h
  ·split at h
   ·cases h
   ·rename_i x k hr
    obtain ⟨r1,r2⟩:=rawE_pos hTd hr
    rw [List.length_drop] at r1
    split at h
    ·cases h
    ·rename_i h4
     rw [List.length_drop] at h4
     split at h
     ·injection h with h; injection h with e1 e2
      subst e1 e2
      exact ⟨by omega,r2⟩
     ·cases h
end Go.Proofs.YtakolikdebfkeaaDoor
