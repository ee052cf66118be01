import Derived.Test.YtgaehhechonegaaGreatDoorWAMS
import Derived.Test.YtgaehhechonegaaGreatDoorWFZone
import Derived.Lib.ItoaLen
import Derived.Lib.UnsafeStr
import Derived.Test.YtgaehhechonegaaGreatDoorChecked
import Derived.Test.YtgaehhechonegaaGreatDoorWMem
open Nat (reduceDiv reduceMod reduceSub reduceAdd reduceLeDiff reduceEqDiff)
set_option linter.all false
namespace Go.Proofs.YtgaehhechonegaaGreatDoor
open Go.RowKit
open Go.Lib (index hasPrefix cut indexAny itoa)
def zonB (z:List UInt8):Bool:=decide (z.length=5) && (decide ((z.getD 0 0).toNat=43) || decide ((z.getD 0 0).toNat=45)) && (z.drop 1).all digB
def zonedS:Spec:=fun xs hp=>match xs,hp with
 | [.str z],[]=>some ⟨.bool (zonB z),[],True⟩
 | _,_=>none
theorem zoned_ok:FnOk Tryz.prog 97 zonedS:=by
 refine fn_slim2 Tryz.func97 s_czoned (Φ:=phiL [(116,[],cfZoneS)]) (phi_cons cfZone_ok (by kernel_rfl) phi_nil) ?_
 intro xs hp r hs hp'
 unfold zonedS at hs
 split at hs
 ·injection hs with hs; subst hs
  rename_i z
  refine ⟨len_le (by kernel_rfl),?_⟩
  by_cases h5:z.length=5
  ·have d5:decide ((z.length:Int)=5)=true:=decide_eq_true (by omega)
   have e5:decide (z.length=5)=true:=decide_eq_true h5
   have et:z.take 5=z:=List.take_of_length_le (by omega)
   have e1:decide (at8 z 0=43)=decide ((z.getD 0 0).toNat=43):=by unfold at8; rw [Bool.eq_iff_iff]; simp; omega
   have e2:decide (at8 z 0=45)=decide ((z.getD 0 0).toNat=45):=by unfold at8; rw [Bool.eq_iff_iff]; simp; omega
   unfold zonB
   rw [e5]
   cases h1:decide ((z.getD 0 0).toNat=43) <;> cases h2:decide ((z.getD 0 0).toNat=45) <;> rw [h1] at e1 <;> rw [h2] at e2
   all_goals (
    simp only [c_czoned,r_czoned,cfZoneS,e1,e2,h5,et,Bool.not_not,Bool.true_or,Bool.or_true,Bool.or_self,go_sem,reduceDiv,reduceMod,↓reduceIte,Int.reduceLT,Int.reduceLE,Int.reduceToNat]
    repeat' apply And.intro
    all_goals first | omega | rfl | trivial)
  ·have d5:decide ((z.length:Int)=5)=false:=decide_eq_false (by omega)
   have e5:decide (z.length=5)=false:=decide_eq_false h5
   unfold zonB
   rw [e5]
   simp only [c_czoned,r_czoned,d5,go_sem,reduceDiv,reduceMod,↓reduceIte]
 ·cases hs
def hasL (p s:List UInt8):Bool:=s.any fun b=>p.contains b
def canyS:Spec:=fun xs hp=>match xs,hp with
 | [.str s,.str p],[]=>some ⟨.bool (hasL p s),[],asciiB p=true∧s.length<4294967281⟩
 | _,_=>none
theorem indexAny_any (p:List UInt8):∀ s:List UInt8,decide (0≤indexAny s p)=hasL p s
 | []=>rfl
 | b :: s=>by
  have ih:=indexAny_any p s
  have hg:=Lib.indexAny_ge p s
  unfold hasL at ih ⊢
  unfold indexAny
  cases hc:p.contains b with
  | true=>rw [if_pos rfl,List.any_cons,hc]; simp
  | false =>
   rw [if_neg (by simp),List.any_cons,hc,Bool.false_or,← ih]
   by_cases h1:indexAny s p = -1
   ·rw [if_pos (by rw [h1]; rfl),h1]
   ·rw [if_neg (by simpa using h1)]
    rw [decide_eq_true (show (0:Int)≤indexAny s p by omega),decide_eq_true (show (0:Int)≤indexAny s p+1 by omega)]
theorem cany_ok:FnOk Tryz.prog 77 canyS:=by
 refine fn_slim2 Tryz.func77 s_scany (Φ:=phiL [(98,[],idxAnyS)]) (phi_cons idxAny_ok (by kernel_rfl) phi_nil) ?_
 intro xs hp r hs hp'
 unfold canyS at hs
 split at hs
 ·injection hs with hs; subst hs
  rename_i s p
  refine ⟨len_le (by kernel_rfl),?_⟩
  obtain ⟨p1,p2⟩:=hp'
  simp only [c_scany,r_scany,idxAnyS,indexAny_any,go_sem,reduceDiv,reduceMod,↓reduceIte,reduceAdd]
  exact ⟨p1,p2⟩
 ·cases hs
structure WhoL where
 name:List UInt8
 mail:List UInt8
 time:Int
 zone:List UInt8
def whoP (w:WhoL):List (Nat × AV):=[(1,.str w.name),(1,.str w.mail),(1,.int .i64 w.time),(1,.str w.zone)]
def rightW (w:WhoL):Bool:=!hasL [60,62,10] (w.name ++ w.mail) && decide (0≤w.time) && decide (w.time<4611686018427387904) && zonB w.zone
def textW (w:WhoL):List UInt8:=w.name ++ [32,60] ++ w.mail ++ [62,32] ++ itoa w.time ++ [32] ++ w.zone
def crightS:Spec:=fun xs hp=>match xs,hp with
 | [.agg [(1,.str n),(1,.str m),(1,.int .i64 t),(1,.str z)]],[]=>some ⟨.bool (rightW ⟨n,m,t,z⟩),[],n.length+m.length<4294967281⟩
 | _,_=>none
theorem cright_ok:FnOk Tryz.prog 75 crightS:=by
 refine fn_slim2 Tryz.func75 s_cright (Φ:=phiL [(77,[],canyS),(97,[],zonedS)]) (phi_cons cany_ok (by kernel_rfl) (phi_cons zoned_ok (by kernel_rfl) phi_nil)) ?_
 intro xs hp r hs hp'
 unfold crightS at hs
 split at hs
 ·injection hs with hs; subst hs
  rename_i n m t z
  have p1:n.length+m.length<4294967281:=hp'
  refine ⟨len_le (by kernel_rfl),?_⟩
  have ha:asciiB [60,62,10]=true:=by decide
  unfold rightW
  simp only
  cases h1:hasL [60,62,10] (n ++ m) <;> cases h2:decide (0≤t) <;> cases h3:decide (t<4611686018427387904)
  all_goals (
   simp only [c_cright,r_cright,canyS,zonedS,ha,h1,h2,h3,List.length_append,go_sem,reduceDiv,reduceMod,↓reduceIte,reduceEqDiff,reduceSub,reduceAdd,reduceLeDiff,reduceCtorEq]
   repeat' apply And.intro
   all_goals first | omega | rfl | trivial | (first | omega | (simp only [lenOk]; omega)) | skip)
 ·cases hs
def textR (w:WhoL) (pr:Prop):Option Ret:=some ⟨.tup [.str (if rightW w=true then textW w else []),.int .i64 (if rightW w=true then 0 else 4)],[],pr⟩
def textS:Spec:=fun xs hp=>match xs,hp with
 | [.agg [(1,.str n),(1,.str m),(1,.int .i64 t),(1,.str z)]],[]=>textR ⟨n,m,t,z⟩ (n.length+m.length+z.length<4294967000)
 | _,_=>none
theorem rightW_time {w:WhoL} (h:rightW w=true):0≤w.time∧w.time<4611686018427387904:=by
 unfold rightW at h
 simp only [Bool.and_eq_true,decide_eq_true_eq] at h
 exact ⟨h.1.1.2,h.1.2⟩
theorem ctext_ok:FnOk Tryz.prog 46 textS:=by
 refine fn_slim2 Tryz.func46 s_ctext (Φ:=phiL [(75,[],crightS),(62,[],itoaS)]) (phi_cons cright_ok (by kernel_rfl) (phi_cons ndec_ok (by kernel_rfl) phi_nil)) ?_
 intro xs hp r hs hp'
 unfold textS textR at hs
 split at hs
 ·injection hs with hs; subst hs
  rename_i n m t z
  have p1:n.length+m.length+z.length<4294967000:=hp'
  refine ⟨len_le (by kernel_rfl),?_⟩
  cases h:rightW ⟨n,m,t,z⟩ with
  | false =>
   simp only [c_ctext,r_ctext,crightS,h,go_sem,reduceDiv,reduceMod,↓reduceIte,reduceSub,reduceAdd,reduceLeDiff,reduceCtorEq]
   omega
  | true =>
   obtain ⟨h1,h2⟩:=rightW_time h
   have hi:=Lib.itoa_length_le t (by simp only at h1; omega) (by simp only at h2; omega)
   simp only at h1 h2
   simp only [c_ctext,r_ctext,crightS,itoaS,h,textW,go_sem,reduceDiv,reduceMod,↓reduceIte,reduceEqDiff,reduceSub,Nat.reduceLT,reduceAdd,reduceLeDiff,reduceCtorEq]
   simp only [List.length_append,List.length_cons,List.length_nil]
   repeat' apply And.intro
   all_goals first | omega | rfl | (first | omega | (simp only [lenOk]; omega)) | (simp; done)
 ·cases hs
def ixsS:Spec:=fun xs hp=>match xs,hp with
 | [.sl 1 ps,.str q],[]=>some ⟨.int .i64 (if (ps.map unS).contains q=true then ((ps.map unS).idxOf q:Int) else -1),[],ps=(ps.map unS).map AV.str∧ps.length≤1000000⟩
 | _,_=>none
theorem ixs_ok:FnOk Tryz.prog 99 ixsS:=by
 refine fn_slim2 Tryz.func99 s_ixs (Φ:=phiL []) phi_nil ?_
 intro xs hp r hs hp'
 unfold ixsS at hs
 split at hs
 ·injection hs with hs; subst hs
  rename_i qs q
  obtain ⟨p1,p2⟩:=hp'
  refine ⟨len_le (by kernel_rfl),?_⟩
  generalize qs.map unS=ps at *
  subst p1
  rw [List.length_map] at p2
  simp only [c_ixs,go_sem,reduceDiv,reduceMod,↓reduceIte,reduceAdd]
  refine loop2P [] [0,1,7,8] [] (fun i:Nat=>⟨[(0,.sl 1 (ps.map AV.str)),(1,.str q),(7,.int .i64 (ps.length:Int)),(8,.int .i64 (i:Int))],[]⟩) (fun i=>i≤ps.idxOf q) (fun i=>ps.length - i) 0 rfl (by omega) ⟨rfl,rfl⟩ (fun i hi R hR=>?_)
  have hle:=List.idxOf_le_length (l:=ps) (a:=q)
  by_cases hil:i<ps.length
  ·have c1:decide ((i:Int)<(ps.length:Int))=true:=decide_eq_true (by omega)
   have hget:(ps.map AV.str).getD i (.str [])=.str (ps.getD i []):=by
    simp [List.getD_eq_getElem?_getD,List.getElem?_map,List.getElem?_eq_getElem hil]
   have hga:ps.getD i []=ps[i]:=by simp [List.getD_eq_getElem?_getD,List.getElem?_eq_getElem hil]
   simp only [b_ixs_0,r_ixs,t_ixs_0,c1,hget,hga,Int.toNat_natCast,go_sem,reduceDiv,reduceMod,↓reduceIte]
   refine ⟨⟨by omega,by omega⟩,fun hb=>?_,fun hb=>?_⟩
   ·have hb:=of_decide_eq_true hb
    have hf:ps.idxOf q=i:=by
     rcases Nat.lt_or_ge i (ps.idxOf q) with h | h
     ·have:=List.not_of_lt_findIdx h
      simp [hb] at this
     ·omega
    have hc:ps.contains q=true:=by rw [List.contains_iff_mem,hb]; exact List.getElem_mem _
    simp only [hc,hf,if_true]
   ·have hb:=of_decide_eq_false hb
    refine ⟨by (first | omega | (simp only [inI]; omega)),hR _ (i+1) ?_ (by omega) rfl⟩
    rcases Nat.lt_or_ge i (ps.idxOf q) with h | h
    ·exact h
    ·have e:ps.idxOf q=i:=by omega
     have:=List.getElem_idxOf (x:=q) (xs:=ps) (by omega)
     simp only [e] at this
     exact absurd this.symm hb
  ·have c1:decide ((i:Int)<(ps.length:Int))=false:=decide_eq_false (by omega)
   have hc:ps.contains q=false:=by
    rw [Bool.eq_false_iff]
    intro h
    rw [List.contains_iff_mem] at h
    have:=List.idxOf_lt_length_of_mem h
    omega
   simp only [b_ixs_0,r_ixs,t_ixs_0,c1,hc,Bool.false_eq_true,go_sem,reduceDiv,reduceMod,↓reduceIte]
 ·cases hs
def consS:Spec:=fun xs hp=>match xs,hp with
 | [.sl 1 ps,.str q],[]=>some ⟨.bool ((ps.map unS).contains q),[],ps=(ps.map unS).map AV.str∧ps.length≤1000000⟩
 | _,_=>none
theorem cons_ok:FnOk Tryz.prog 78 consS:=by
 refine fn_slim2 Tryz.func78 s_cons (Φ:=phiL [(99,[],ixsS)]) (phi_cons ixs_ok (by kernel_rfl) phi_nil) ?_
 intro xs hp r hs hp'
 unfold consS at hs
 split at hs
 ·injection hs with hs; subst hs
  rename_i ps q
  obtain ⟨p1,p2⟩:=hp'
  refine ⟨len_le (by kernel_rfl),?_⟩
  cases hc:(ps.map unS).contains q with
  | true =>
   have d:decide ((0:Int)≤(((ps.map unS).idxOf q:Nat):Int))=true:=decide_eq_true (by omega)
   simp only [c_cons,r_cons,ixsS,hc,d,go_sem,reduceDiv,reduceMod,↓reduceIte,reduceAdd]
   exact ⟨p1,p2⟩
  | false =>
   simp only [c_cons,r_cons,ixsS,hc,Bool.false_eq_true,go_sem,reduceDiv,reduceMod,↓reduceIte,reduceAdd,Int.reduceLE]
   exact ⟨p1,p2⟩
 ·cases hs
def keyB (k:List UInt8):Bool:=([[116,114,101,101],[112,97,114,101,110,116],[97,117,116,104,111,114],[99,111,109,109,105,116,116,101,114]]:List (List UInt8)).contains k
theorem keyB_eq (k:List UInt8):(k == [116,114,101,101] || (k == [112,97,114,101,110,116] || (k == [97,117,116,104,111,114] || k == [99,111,109,109,105,116,116,101,114])))=keyB k:=by
 unfold keyB
 simp only [List.contains_cons,List.contains_nil,Bool.or_false]
def extraB (k:List UInt8):Bool:=decide (k≠[]) && !hasL [32,10] k && !keyB k
def cextraS:Spec:=fun xs hp=>match xs,hp with
 | [.agg [(1,.str k),(1,.str v)]],[]=>some ⟨.bool (extraB k),[],k.length<4294967281⟩
 | _,_=>none
theorem cextra_ok:FnOk Tryz.prog 49 cextraS:=by
 refine fn_slim2 Tryz.func49 s_cextra (Φ:=phiL [(77,[],canyS),(78,[],consS)]) (phi_cons cany_ok (by kernel_rfl) (phi_cons cons_ok (by kernel_rfl) phi_nil)) ?_
 intro xs hp r hs hp'
 unfold cextraS at hs
 split at hs
 ·injection hs with hs; subst hs
  rename_i k v
  have p1:k.length<4294967281:=hp'
  refine ⟨len_le (by kernel_rfl),?_⟩
  have ha:asciiB [32,10]=true:=by decide
  unfold extraB
  by_cases h0:k=[]
  ·subst h0
   simp only [c_cextra,r_cextra,decide_true,go_sem,reduceDiv,reduceMod,↓reduceIte,Nat.reduceLT,reduceAdd]
   rfl
  ·have d0:decide (k=[])=false:=decide_eq_false h0
   have d1:decide (k≠[])=true:=decide_eq_true h0
   rw [d1]
   cases h1:hasL [32,10] k
   all_goals (
    simp only [c_cextra,r_cextra,canyS,consS,ha,h1,d0,unS,keyB_eq,go_sem,reduceDiv,reduceMod,↓reduceIte,reduceEqDiff,Nat.reduceLT,reduceAdd,reduceLeDiff]
    repeat' apply And.intro
    all_goals first | omega | rfl | trivial | (first | omega | (simp only [lenOk,bytesOk,inI,IntKind.bits,List.length_append,Bs_len,List.length_cons,List.length_nil,List.length_map,List.length_take,List.length_drop,List.length_replicate]; omega)) | skip)
 ·cases hs
def cprn1S:Spec:=fun xs hp=>match xs,hp with
 | [.agg [(1,.str k),(1,.str v)]],[]=>some ⟨.bool (!extraB k),[],k.length<4294967281⟩
 | _,_=>none
theorem cprn1_ok:FnOk Tryz.prog 48 cprn1S:=by
 refine fn_slim2 Tryz.func48 s_cprn1 (Φ:=phiL [(49,[],cextraS)]) (phi_cons cextra_ok (by kernel_rfl) phi_nil) ?_
 intro xs hp r hs hp'
 unfold cprn1S at hs
 split at hs
 ·injection hs with hs; subst hs
  rename_i k v
  have p1:k.length<4294967281:=hp'
  refine ⟨len_le (by kernel_rfl),?_⟩
  simp only [c_cprn1,r_cprn1,cextraS,go_sem,reduceDiv,reduceMod,↓reduceIte,reduceSub,reduceAdd,reduceLeDiff,reduceCtorEq]
  exact p1
 ·cases hs
def selfX:AV→Bool
 | .con (.pointer none)=>true
 | .ref 0 0 0=>true
 | _=>false
theorem selfX_or {X:AV} (h:selfX X=true):X=.con (.pointer none)∨X=.ref 0 0 0:=by
 unfold selfX at h
 split at h
 ·exact .inl rfl
 ·exact .inr rfl
 ·cases h
def copyCheckS:Spec:=fun xs hp=>match xs,hp with
 | [.ref 0 0 0],.cells T [(1,X),(1,Y)] :: rest=>if selfX X=true then some ⟨.tup [],.cells T [(1,.ref 0 0 0),(1,Y)] :: rest,T=97⟩ else none
 | _,_=>none
theorem css_two {w:World} {S:Nat→Prop} {ρ:Rho} {X Y:AV} {us:List Value} (h:Css w S ρ [(1,X),(1,Y)] us):∃ x y,us=[x,y]∧Cs w S ρ X [x]∧Cs w S ρ Y [y]:=by
 obtain ⟨u1,u2,rfl,h1,h2,u3,u4,rfl,h3,h4,rfl⟩:=h
 match u1,h1,u3,h3 with
 | [x],_,[y],_=>exact ⟨x,y,rfl,h2,h4⟩
theorem copyCheckA_ok:FnOk Tryz.prog 79 copyCheckS:=by
 intro xs0 hp r hs hp' w S ρ args H ha
 unfold copyCheckS at hs
 split at hs
 ·rename_i T X Y rest
  split at hs
  ·rename_i hX
   injection hs with hs; subst hs
   have hT:T=97:=hp'
   subst hT
   obtain ⟨v,vs,rfl,hv,hr⟩:=ha.get _ _ rfl
   obtain rfl:=hr.none
   obtain ⟨g,L,h1,h2,rfl⟩:=hv.ref
   obtain ⟨g',us,k1,k2,k3,k4⟩:=H.ob 0 _ rfl
   rw [h1] at k1; injection k1 with k1; subst k1
   injection h2 with h2; injection h2 with h2; subst h2
   obtain ⟨x,y,rfl,c1,c2⟩:=css_two k3
   have hlt:g' < w.heap.size:=(Array.getElem?_eq_some_iff.1 k2).1
   rcases selfX_or hX with rfl | rfl
   ·cases c1
    refine (copyCheck_fresh g' w (by simp [World.cell?,k2]) (by simp [World.shape?,k2]) (by simp [World.frozen?,k2])).mono ?_
    rintro e w' ⟨rfl,rfl⟩
    obtain ⟨s1,s2⟩:=setCells_row g' 97 (0,0) [.pointer (some ⟨g',0,none⟩)] 0 w _ k2 (by simp)
    have e1:w.setCells g' 0 [.pointer (some ⟨g',0,none⟩)]=w.setCell ⟨g',0,none⟩ (.pointer (some ⟨g',0,none⟩)):=rfl
    rw [e1] at s1 s2
    have hblk:(AObj.cells 97 [(1,.con (.pointer none)),(1,Y)]).blk ρ 0=some g' := by simp [AObj.blk,h1,ablk]
    have hE:Ext w (w.setCell ⟨g',0,none⟩ (.pointer (some ⟨g',0,none⟩))) S S ρ ρ:=⟨fun b hb=>s2.block b (H.slt b hb) (fun e=>by injection e with e; subst e; exact k4 hb),fun _ h=>h,fun _ _ _ h=>h⟩
    obtain ⟨H',hE'⟩:=H.upd (id:=0) (S' := S) (ρ' := ρ) (o' := .cells 97 [(1,.ref 0 0 0),(1,Y)]) rfl (by rw [hblk]; exact s2) (fun _ h=>h) (fun _ h=>.inl h) (fun _ _ _ h=>h) (fun _ _ _=>rfl)
     ⟨g',[.pointer (some ⟨g',0,none⟩),y],h1,by simpa using s1,⟨[_],[y],rfl,rfl,.ref 0 0 0 g' _ h1 rfl,[y],[],rfl,rfl,c2.ext hE.mem hE.st hE.loc,rfl⟩,k4⟩ (fun v hv=>H.vers 0 _ rfl v hv) (fun b hb=>.inl (by simpa [AObj.blk] using hb))
    exact ⟨_,S,ρ,rfl,⟨[],rfl,rfl,fun i hi=>by simp at hi⟩,H',hE',fun b hb=>.inl hb⟩
   ·cases c1 with
    | ref _ _ _ g2 L2 q1 q2 =>
    rw [h1] at q1; injection q1 with q1; subst q1
    injection q2 with q2; injection q2 with q2; subst q2
    refine (copyCheck_used g' w (by simp [World.cell?,k2])).mono ?_
    rintro e w' ⟨rfl,rfl⟩
    exact ⟨_,S,ρ,rfl,⟨[],rfl,rfl,fun i hi=>by simp at hi⟩,H,Ext.refl _ _ _,fun b hb=>.inl hb⟩
  ·cases hs
 ·cases hs
def c_bws:ACode:=(.seq (.reg none [oS 4 (.mv (.c (.int .i64 0))),oS 5 (.mv (.c (.con .nilIface)))]) (.seq (.reg none [oS 6 (.mv (.t 0)),oS 7 (.call 79 [(.t 6)])]) (.seq (.reg none [oS 8 (.mv (.t 0)),oS 9 (.mv (.t 0)),oS 10 (.nck (.t 9)),oS 11 (.fa 1 (.t 10)),oS 12 (.ld (.one (.con (.slice none 0 0))) (.t 11)),oS 13 (.mv (.t 1)),oS 14 (.appS 5 (.t 12) (.t 13)),oS 15 (.nck (.t 8)),oS 16 (.fa 1 (.t 15)),oN (.st (.one (.con (.slice none 0 0))) (.t 16) (.t 14))]) (.seq (.reg none [oS 17 (.mv (.t 1)),oS 18 (.len none true (.t 17)),oS 4 (.mv (.t 18)),oS 5 (.mv (.c (.con .nilIface)))]) .ret))))
def r_bws:List ARes:=[(.t 4),(.t 5)]
theorem s_bws:slimF Tryz.prog Tryz.f50=some (c_bws,r_bws):=by kernel_rfl
def bwsS:Spec:=fun xs hp=>match xs,hp with
 | [.ref 0 0 0,.str s],[.cells T [(1,X),(1,.con (.slice none 0 0))]]=>if selfX X=true then some ⟨.tup [.int .i64 (s.length:Int),.con .nilIface],[.cells T [(1,.ref 0 0 0),(1,.own 1 0)],.row 5 1 0 (Bs s)],T=97∧bytesOk s.length⟩ else none
 | [.ref 0 0 0,.str s],[.cells T [(1,X),(1,.own 1 v)],.row e 1 v' bs]=>if selfX X=true∧v=v' ∧ e=5 then some ⟨.tup [.int .i64 (s.length:Int),.con .nilIface],[.cells T [(1,.ref 0 0 0),(1,.own 1 (v+1))],.row 5 1 (v+1) (bs ++ Bs s)],T=97∧bytesOk (bs.length+s.length)⟩ else none
 | _,_=>none
theorem bws_ok:FnOk Tryz.prog 50 bwsS:=by
 refine fn_slim2 Tryz.func50 s_bws (Φ:=phiL [(79,[],copyCheckS)]) (phi_cons copyCheckA_ok (by kernel_rfl) phi_nil) ?_
 intro xs hp r hs hp'
 unfold bwsS at hs
 split at hs
 ·rename_i s T X
  split at hs
  ·rename_i hX
   injection hs with hs; subst hs
   obtain ⟨rfl,p2⟩:=hp'
   refine ⟨len_le (by kernel_rfl),?_⟩
   unfold bytesOk at p2
   rcases selfX_or hX with rfl | rfl
   ·simp only [c_bws,r_bws,copyCheckS,hX,go_sem,reduceDiv,reduceMod,↓reduceIte,Nat.reduceBEq,reduceSub,Nat.reduceLT,reduceAdd,reduceCtorEq]
    exact ⟨by unfold lenOk; omega,p2⟩
   ·simp only [c_bws,r_bws,copyCheckS,hX,go_sem,reduceDiv,reduceMod,↓reduceIte,Nat.reduceBEq,reduceSub,Nat.reduceLT,reduceAdd,reduceCtorEq]
    exact ⟨by unfold lenOk; omega,p2⟩
  ·cases hs
 ·rename_i s T X v e v' bs
  split at hs
  ·rename_i hX
   obtain ⟨hX,rfl,rfl⟩:=hX
   injection hs with hs; subst hs
   obtain ⟨rfl,p2⟩:=hp'
   refine ⟨len_le (by kernel_rfl),?_⟩
   unfold bytesOk at p2
   rcases selfX_or hX with rfl | rfl
   ·simp only [c_bws,r_bws,copyCheckS,hX,List.length_append,Bs_len,go_sem,reduceDiv,reduceMod,↓reduceIte,Nat.reduceBEq,reduceSub,Nat.reduceLT,reduceAdd,reduceCtorEq]
    exact ⟨by unfold lenOk; omega,p2⟩
   ·simp only [c_bws,r_bws,copyCheckS,hX,List.length_append,Bs_len,go_sem,reduceDiv,reduceMod,↓reduceIte,Nat.reduceBEq,reduceSub,Nat.reduceLT,reduceAdd,reduceCtorEq]
    exact ⟨by unfold lenOk; omega,p2⟩
  ·cases hs
 ·cases hs
set_option maxHeartbeats 1000000 in
set_option maxRecDepth 100000 in
theorem bstr_some (b g cap:Nat) (p:Value) (cur:Array Value) (fr:Nat × Nat) (l:List UInt8) (w:World) (h0:l≠[]) (hbk:w.heap[b]?=some (.cells #[p,.slice (some ⟨g,0,none⟩) l.length cap] 97 (0,0))) (hg:w.heap[g]?=some (.cells cur 5 fr))
  (hnc:l.length≤cap) (hcm:cap≤9223372036854775807) (hcs:cur.size=cap) (htake:cur.toList.take l.length=l.map U) :
  Calls Tryz.prog 53 #[.pointer (some ⟨b,0,none⟩)] w fun e w' => e=.returned (.string ⟨l.toArray⟩)∧w' = w.drew.freeze ⟨g,0,none⟩ l.length:=by
 have hl0:l.length≠0:=by simpa using h0
 have c1:w.drew.cell? ⟨b,1,none⟩=some (.slice (some ⟨g,0,none⟩) l.length cap):=by
  have:w.drew.heap[b]?=some (.cells #[p,.slice (some ⟨g,0,none⟩) l.length cap] 97 (0,0)):=hbk
  rw [Lib.cell_of_heap this]; rfl
 have hSD:(Builtin.unsafeSliceData_ #[71] 130 #[.slice (some ⟨g,0,none⟩) l.length cap]).run Tryz.prog w.drew=.ok (.pointer (some ⟨g,0,none⟩)) w.drew :=
  Lib.run_unsafeSliceData_row _ _ _ _ _ _ (by omega)
 have hUS:(Builtin.unsafeString_ #[130,3] 9 #[.pointer (some ⟨g,0,none⟩),.int .i64 l.length]).run Tryz.prog w.drew=.ok (.string ⟨l.toArray⟩) (w.drew.freeze ⟨g,0,none⟩ l.length):=by
  refine Lib.run_unsafeString_row w.drew 130 3 9 5 Tryz.underlying130 (by kernel_rfl) g cur.size (by have hg' : w.drew.heap[g]?=some (.cells cur 5 fr):=hg; simp [World.shape?,hg']) l h0 (by omega) (by omega) ?_
  intro j x hx
  have hg' : w.drew.heap[g]?=some (.cells cur 5 fr):=hg
  rw [add_spot,Nat.zero_add,Lib.cell_of_heap hg']
  have h1:=congrArg (fun z=>z[j]?) htake
  have hj:j<l.length:=(List.getElem?_eq_some_iff.1 hx).1
  simp only [List.getElem?_take,if_pos hj,List.getElem?_map,hx,Option.map_some] at h1
  rw [← Array.getElem?_toList]; exact h1
 have mixed:Tryz.prog.follows .mixedOrders=true:=by kernel_rfl
 go_enter Tryz.func53,Tryz.ntmps53
 go_wp2
 go_region_o
 all_goals (go_wp2; go_ret; exact ⟨rfl,rfl⟩)
set_option maxHeartbeats 2000000 in
set_option maxRecDepth 100000 in
theorem bstr_nil (b:Nat) (p:Value) (w:World) (hbk:w.heap[b]?=some (.cells #[p,.slice none 0 0] 97 (0,0))) :
  Calls Tryz.prog 53 #[.pointer (some ⟨b,0,none⟩)] w fun e w' => e=.returned (.string ⟨#[]⟩)∧Below w.heap.size w w' := by
 have c1:w.drew.cell? ⟨b,1,none⟩=some (.slice none 0 0):=by
  have:w.drew.heap[b]?=some (.cells #[p,.slice none 0 0] 97 (0,0)):=hbk
  rw [Lib.cell_of_heap this]; rfl
 have hSD:(Builtin.unsafeSliceData_ #[71] 130 #[.slice none 0 0]).run Tryz.prog w.drew=.ok (.pointer none) w.drew:=rfl
 have mixed:Tryz.prog.follows .mixedOrders=true:=by kernel_rfl
 have hUS:=fun (W:World) (q:Option Addr)=>Lib.run_unsafeString_none (P:=Tryz.prog) W 130 3 9 q
 go_enter Tryz.func53,Tryz.ntmps53
 go_wp2
 go_region_o
 all_goals (go_wp2; go_ret; exact ⟨rfl,Below.drew (Below.refl _ w)⟩)
set_option maxHeartbeats 2000000 in
set_option maxRecDepth 100000 in
theorem bstr_room (b g cap:Nat) (p:Value) (w:World) (hc0:cap≠0) (hbk:w.heap[b]?=some (.cells #[p,.slice (some ⟨g,0,none⟩) 0 cap] 97 (0,0))) :
  Calls Tryz.prog 53 #[.pointer (some ⟨b,0,none⟩)] w fun e w' => e=.returned (.string ⟨#[]⟩)∧Below w.heap.size w w' := by
 have c1:w.drew.cell? ⟨b,1,none⟩=some (.slice (some ⟨g,0,none⟩) 0 cap):=by
  have:w.drew.heap[b]?=some (.cells #[p,.slice (some ⟨g,0,none⟩) 0 cap] 97 (0,0)):=hbk
  rw [Lib.cell_of_heap this]; rfl
 have hSD:(Builtin.unsafeSliceData_ #[71] 130 #[.slice (some ⟨g,0,none⟩) 0 cap]).run Tryz.prog w.drew=.ok (.pointer (some ⟨g,0,none⟩)) w.drew :=
  Lib.run_unsafeSliceData_row _ _ _ _ _ _ hc0
 clear hc0
 have mixed:Tryz.prog.follows .mixedOrders=true:=by kernel_rfl
 have hUS:=fun (W:World) (q:Option Addr)=>Lib.run_unsafeString_none (P:=Tryz.prog) W 130 3 9 q
 go_enter Tryz.func53,Tryz.ntmps53
 go_wp2
 go_region_o
 all_goals (go_wp2; go_ret; exact ⟨rfl,Below.drew (Below.refl _ w)⟩)
set_option maxHeartbeats 2000000 in
set_option maxRecDepth 100000 in
theorem bstr_noroom (b g:Nat) (p:Value) (cur:Array Value) (fr:Nat × Nat) (w:World) (hbk:w.heap[b]?=some (.cells #[p,.slice (some ⟨g,0,none⟩) 0 0] 97 (0,0))) (hg:w.heap[g]?=some (.cells cur 5 fr)) :
  Calls Tryz.prog 53 #[.pointer (some ⟨b,0,none⟩)] w fun e w' => e=.returned (.string ⟨#[]⟩)∧Below w.heap.size w w' := by
 have hlt:b<w.heap.size:=(Array.getElem?_eq_some_iff.1 hbk).1
 have c1:w.drew.cell? ⟨b,1,none⟩=some (.slice (some ⟨g,0,none⟩) 0 0):=by
  have:w.drew.heap[b]?=some (.cells #[p,.slice (some ⟨g,0,none⟩) 0 0] 97 (0,0)):=hbk
  rw [Lib.cell_of_heap this]; rfl
 have hSD:(Builtin.unsafeSliceData_ #[71] 130 #[.slice (some ⟨g,0,none⟩) 0 0]).run Tryz.prog w.drew=.ok (.pointer (some ⟨w.drew.heap.size,0,none⟩)) (w.drew.alloc (.view ⟨g,0,none⟩ 5)) :=
  Lib.run_unsafeSliceData_zero w.drew _ _ 5 Tryz.underlying130 ⟨g,0,none⟩ 0 (5,cur.size) (by have hg' : w.drew.heap[g]?=some (.cells cur 5 fr):=hg; simp [World.shape?,hg'])
 have c2:(w.drew.alloc (.view ⟨g,0,none⟩ 5)).cell? ⟨b,1,none⟩=some (.slice (some ⟨g,0,none⟩) 0 0):=by
  have:(w.drew.alloc (.view ⟨g,0,none⟩ 5)).heap[b]?=_:=(Lib.alloc_old w.drew _ b hlt).trans hbk
  rw [Lib.cell_of_heap this]; rfl
 have c3:(w.alloc (.view ⟨g,0,none⟩ 5)).drew.cell? ⟨b,1,none⟩=some (.slice (some ⟨g,0,none⟩) 0 0):=c2
 have c0:w.cell? ⟨b,1,none⟩=some (.slice (some ⟨g,0,none⟩) 0 0):=c1
 have mixed:Tryz.prog.follows .mixedOrders=true:=by kernel_rfl
 have hUS:=fun (W:World) (q:Option Addr)=>Lib.run_unsafeString_none (P:=Tryz.prog) W 130 3 9 q
 go_enter Tryz.func53,Tryz.ntmps53
 go_wp2
 go_region_o
 all_goals (go_wp2; go_ret; exact ⟨rfl,(Below.drew (Below.refl _ w)).alloc (Nat.le_refl _) _⟩)
def bstrS:Spec:=fun xs hp=>match xs,hp with
 | [.ref 0 0 0],[.cells T [(1,X),(1,.con (.slice none 0 0))]]=>some ⟨.str [],[.cells T [(1,X),(1,.con (.slice none 0 0))]],T=97⟩
 | [.ref 0 0 0],[.cells T [(1,X),(1,.own 1 v)],.row e 1 v' bs]=>if v=v' ∧ e=5 then some ⟨.str (unB bs),[.cells T [(1,X),(1,.own 1 v)],.froz 1 v bs],T=97∧bs=Bs (unB bs)⟩ else none
 | _,_=>none
theorem bstr_ok:FnOk Tryz.prog 53 bstrS:=by
 intro xs0 hp r hs hp' w S ρ args H ha
 unfold bstrS at hs
 split at hs
 ·rename_i T X
  injection hs with hs; subst hs
  have hT:T=97:=hp'
  subst hT
  obtain ⟨v,vs,rfl,hv,hr⟩:=ha.get _ _ rfl
  obtain rfl:=hr.none
  obtain ⟨g,L,h1,h2,rfl⟩:=hv.ref
  obtain ⟨g',us,k1,k2,k3,k4⟩:=H.ob 0 _ rfl
  rw [h1] at k1; injection k1 with k1; subst k1
  injection h2 with h2; injection h2 with h2; subst h2
  obtain ⟨x,y,rfl,c1,c2⟩:=css_two k3
  cases c2
  refine (bstr_nil g' x w k2).mono ?_
  rintro e w' ⟨rfl,hb⟩
  obtain ⟨H',hE⟩:=H.same (w' := w') (S' := S) hb (fun _ h=>h) (fun _ h=>.inl h)
  exact ⟨_,S,ρ,rfl,Vl.str' _,H',hE,fun b hb=>.inl hb⟩
 ·rename_i T X v e v' bs
  split at hs
  ·rename_i hc
   obtain ⟨rfl,rfl⟩:=hc
   injection hs with hs; subst hs
   obtain ⟨rfl,p2⟩:=hp'
   generalize hl:unB bs=l at *
   subst p2
   obtain ⟨u,vs,rfl,hv,hr⟩:=ha.get _ _ rfl
   obtain rfl:=hr.none
   obtain ⟨g,L,h1,h2,rfl⟩:=hv.ref
   obtain ⟨g',us,k1,k2,k3,k4⟩:=H.ob 0 _ rfl
   rw [h1] at k1; injection k1 with k1; subst k1
   injection h2 with h2; injection h2 with h2; subst h2
   obtain ⟨x,y,rfl,c1,c2⟩:=css_two k3
   cases c2 with
   | own _ _ L1 q1 =>
   obtain ⟨L',ws,o1,o2,o3,o4,o5,o6⟩:=H.ob 1 _ rfl
   rw [q1] at o1; injection o1 with o1; subst o1
   rw [Bs_len] at o2
   have hws:ws=l.map U:=css_bytes_eq o5
   have hone:L1.sz=1:=o3
   obtain ⟨r1,r2⟩:=o4
   have vx:∀ (w' : World) (S' : Nat→Prop),Ext w w' S S' ρ ρ→Vl w' S' ρ (.str l) (.string ⟨l.toArray⟩):=fun _ _ _=>Vl.str' _
   by_cases h0:l=[]
   ·subst h0
    have hn0:L1.n=0:=o2
    have fin:∀ w',Below w.heap.size w w' → ∃ u S' ρ',Ending.returned (.string ⟨#[]⟩)=Ending.returned u∧Vl w' S' ρ' (.str []) u∧HeapOk (Lent ρ [.cells 97 [(1,X),(1,.own 1 v)],.row 5 1 v (Bs [])]) w S' ρ' [.cells 97 [(1,X),(1,.own 1 v)],.froz 1 v (Bs [])] w' ∧ Ext w w' S S' ρ ρ' ∧ (∀ b,S' b→S b∨w.heap.size≤b∨Lent ρ [.cells 97 [(1,X),(1,.own 1 v)],.row 5 1 v (Bs [])] b):=by
     intro w' hb
     obtain ⟨H1,hE1⟩:=H.same (w' := w') (S' := S) hb (fun _ h=>h) (fun _ h=>.inl h)
     have hc:L1.c≤9223372036854775807:=by
      rcases r2 with ⟨_,_,h⟩ | ⟨_,_,_,_,_,_,_,h,_⟩ <;> omega
     obtain ⟨H2,hE2⟩:=H1.upd (id:=1) (w' := w') (S' := S) (ρ' := ρ) (o' := .froz 1 v (Bs [])) rfl (World.grownBy.refl w' _) (fun _ h=>h) (fun _ h=>.inl h) (fun _ _ _ h=>h) (fun _ _ _=>rfl)
      ⟨L1,q1,o2,o3,by rw [hn0]; exact .sl0 1 _ _ hc⟩ (fun u hu=>H.vers 1 _ rfl u hu) (fun b hb=>by cases hb)
     exact ⟨_,S,ρ,rfl,Vl.str' _,H2,hE1.trans hE2,fun b hb=>.inl hb⟩
    rcases r2 with ⟨z1,z2,z3⟩ | ⟨g,cur,fr,z1,z2,z3,z4,z5,z6,z7⟩
    ·rw [z1,z2,z3] at k2
     refine (bstr_nil g' x w k2).mono ?_
     rintro e w' ⟨rfl,hb⟩
     exact fin w' hb
    ·rw [z1,hn0] at k2
     by_cases hc0:L1.c=0
     ·rw [hc0] at k2
      refine (bstr_noroom g' g x cur fr w k2 z2).mono ?_
      rintro e w' ⟨rfl,hb⟩
      exact fin w' hb
     ·refine (bstr_room g' g L1.c x w hc0 k2).mono ?_
      rintro e w' ⟨rfl,hb⟩
      exact fin w' hb
   ·have hl0:l.length≠0:=by simpa using h0
    rcases r2 with ⟨z1,z2,z3⟩ | ⟨g,cur,fr,z1,z2,z3,z4,z5,z6,z7⟩
    ·omega
    ·rw [hone,Nat.mul_one] at z6 z7
     rw [z1,o2] at k2
     rw [o2] at z4 z7
     refine (bstr_some g' g L1.c x cur fr l w h0 k2 z2 z4 z5 z6 (by rw [z7,hws])).mono ?_
     rintro e w' ⟨rfl,rfl⟩
     have hgl:g<w.heap.size:=(Array.getElem?_eq_some_iff.1 z2).1
     obtain ⟨fr',hfz⟩:∃ fr',(w.drew.freeze ⟨g,0,none⟩ l.length).heap=w.heap.modify g fun o=>if o matches .cells _ _ _ then .cells cur 5 fr' else o:=by
      obtain ⟨lo,hi⟩:=fr
      refine ⟨if lo == hi then (0,l.length) else (min lo 0,max hi l.length),?_⟩
      have hg:=(Array.getElem?_eq_some_iff.1 z2)
      obtain ⟨hg1,hg2⟩:=hg
      unfold World.freeze
      rw [if_neg (by simpa using hl0)]
      simp only
      show Array.modify w.heap g _=_
      apply Array.ext
      ·simp
      ·intro i h1 h2
       simp only [Array.getElem_modify]
       by_cases hgi:g=i
       ·subst hgi; simp only [if_true,hg2,Nat.zero_add]
       ·simp only [if_neg hgi]
     generalize hW:w.drew.freeze ⟨g,0,none⟩ l.length=W at *
     have hgb:w.grownBy W (some g):=by
      rw [← hW]
      refine ⟨by unfold World.freeze; split <;> rfl,by unfold World.freeze; split <;> rfl,by unfold World.freeze; split <;> rfl,by rw [hW,hfz]; simp,fun k hk hne=>?_⟩
      rw [hW,hfz,Array.getElem?_modify,if_neg (fun e=>hne (by rw [e]))]
     have hw' : W.heap[g]?=some (.cells cur 5 fr'):=by
      rw [hfz,Array.getElem?_modify,if_pos rfl,z2]; rfl
     have hblk:(AObj.row 5 1 v (Bs l)).blk ρ 1=some g:=by simp [AObj.blk,q1,ablk,z1]
     obtain ⟨H2,hE2⟩:=H.upd (id:=1) (w' := W) (S' := fun b=>S b∨b=g) (ρ' := ρ) (o' := .froz 1 v (Bs l)) rfl (by rw [hblk]; exact hgb) (fun _ h=>.inl h) (fun b h=>h.elim .inl fun h=>.inr (.inr (by rw [hblk,h]))) (fun _ _ _ h=>h) (fun _ _ _=>rfl)
      ⟨L1,q1,by rw [Bs_len]; exact o2,o3,by
       rw [z1,o2,show (l.length:Nat)=(Bs l).length by rw [Bs_len]]
       refine .sl 1 (Bs l) (l.map U) g 0 L1.c (.inr rfl) (css_bytes l).cs (by simp [Bs_len]) (fun j hj=>?_) (by rw [Bs_len]; exact z4) z5
       rw [cell_of_row W g _ cur _ fr' hw',Nat.zero_add,← hws,← z7,List.getElem?_take,if_pos (by simpa using hj),Array.getElem?_toList]⟩ (fun u hu=>H.vers 1 _ rfl u hu) (fun b hb=>by cases hb)
     exact ⟨_,_,ρ,rfl,Vl.str' _,H2,hE2,fun b hb=>hb.elim .inl fun h=>.inr (.inr ⟨1,_,rfl,by rw [hblk,h]⟩)⟩
  ·cases hs
 ·cases hs
def badE (x:ExL):Bool:=!extraB x.1
def fiE (es:List ExL):Int:=if es.any badE then (es.findIdx badE:Int) else -1
def ifeS:Spec:=fun xs hp=>match xs,hp with
 | [.sl k es,.fn (.func g) [] []],[]=>some ⟨.int .i64 (fiE (es.map unEx)),[],(k=2∨es=[])∧g=48∧es=(es.map unEx).map exV∧es.length≤1000000∧∀ x∈es.map unEx,x.1.length<4294967281⟩
 | _,_=>none
theorem ife_ok:FnOk Tryz.prog 76 ifeS:=by
 refine fn_slim2 Tryz.func76 s_ife (Φ:=phiL [(48,[],cprn1S)]) (phi_cons cprn1_ok (by kernel_rfl) phi_nil) ?_
 intro xs hp r hs hp'
 unfold ifeS at hs
 split at hs
 ·injection hs with hs; subst hs
  rename_i k as0 g
  obtain ⟨p0,rfl,p2,p3,p4⟩:=hp'
  refine ⟨len_le (by kernel_rfl),?_⟩
  generalize as0.map unEx=es at *
  subst p2
  rw [List.length_map] at p3
  simp only [c_ife,go_sem,reduceDiv,reduceMod,↓reduceIte,reduceAdd]
  refine loop2P [] [0,1,7,8] [] (fun i:Nat=>⟨[(0,.sl k (es.map exV)),(1,.fn (.func 48) [] []),(7,.int .i64 (es.length:Int)),(8,.int .i64 (i:Int))],[]⟩) (fun i=>i≤es.findIdx badE) (fun i=>es.length - i) 0 rfl (by omega) ⟨rfl,rfl⟩ (fun i hi R hR=>?_)
  have hle:=List.findIdx_le_length (xs:=es) (p:=badE)
  by_cases hil:i<es.length
  ·have c1:decide ((i:Int)<(es.length:Int))=true:=decide_eq_true (by omega)
   have hk:k=2:=p0.resolve_right (by intro h; have:=congrArg List.length h; simp at this; rw [this] at hil; simp at hil)
   subst hk
   have hget:=getD_map exV es ([],[]) (.agg [(1,(.str [])),(1,(.str []))]) hil
   have hga:es.getD i ([],[])=es[i]:=by simp [List.getD_eq_getElem?_getD,List.getElem?_eq_getElem hil]
   have hlen:=p4 es[i] (List.getElem_mem _)
   simp only [b_ife_0,r_ife,t_ife_0,cprn1S,c1,hget,hga,exV,Int.toNat_natCast,go_sem,reduceDiv,reduceMod,↓reduceIte,reduceSub,reduceLeDiff,reduceCtorEq]
   refine ⟨⟨by omega,by omega⟩,hlen,fun hb=>?_,fun hb=>?_⟩
   ·have hb' : badE es[i]=true:=hb
    have hf:es.findIdx badE=i:=by
     rcases Nat.lt_or_ge i (es.findIdx badE) with h | h
     ·have:=List.not_of_lt_findIdx h
      rw [hb'] at this; simp at this
     ·omega
    have hany:es.any badE=true:=List.any_eq_true.2 ⟨es[i],List.getElem_mem _,hb'⟩
    unfold fiE
    rw [hany,if_pos rfl,hf]
   ·have hb' : badE es[i]=false:=hb
    refine ⟨by (first | omega | (simp only [inI]; omega)),hR _ (i+1) ?_ (by omega) rfl⟩
    rcases Nat.lt_or_ge i (es.findIdx badE) with h | h
    ·exact h
    ·have e:es.findIdx badE=i:=by omega
     have:=List.findIdx_getElem (xs:=es) (p:=badE) (w:=by omega)
     simp only [e] at this
     rw [hb'] at this; cases this
  ·have c1:decide ((i:Int)<(es.length:Int))=false:=decide_eq_false (by omega)
   have hn:es.any badE=false:=by
    rw [List.any_eq_false]
    intro x hx hb
    have:=List.findIdx_lt_length_of_exists ⟨x,hx,hb⟩
    omega
   have e:fiE es = -1:=by unfold fiE; rw [hn]; rfl
   simp only [b_ife_0,r_ife,t_ife_0,c1,e,go_sem,reduceDiv,reduceMod,↓reduceIte]
 ·cases hs
theorem fiE_nn (es:List ExL):decide (0≤fiE es)=es.any badE:=by
 unfold fiE
 cases es.any badE with
 | true=>simp
 | false=>rfl
def cfeS:Spec:=fun xs hp=>match xs,hp with
 | [.sl k es,.fn (.func g) [] []],[]=>some ⟨.bool ((es.map unEx).any badE),[],(k=2∨es=[])∧g=48∧es=(es.map unEx).map exV∧es.length≤1000000∧∀ x∈es.map unEx,x.1.length<4294967281⟩
 | _,_=>none
theorem cfe_ok:FnOk Tryz.prog 47 cfeS:=by
 refine fn_slim2 Tryz.func47 s_cfe (Φ:=phiL [(76,[],ifeS)]) (phi_cons ife_ok (by kernel_rfl) phi_nil) ?_
 intro xs hp r hs hp'
 unfold cfeS at hs
 split at hs
 ·injection hs with hs; subst hs
  rename_i k es g
  refine ⟨len_le (by kernel_rfl),?_⟩
  obtain ⟨p0,rfl,p2,p3,p4⟩:=hp'
  simp only [c_cfe,r_cfe,ifeS,fiE_nn,go_sem,reduceDiv,reduceMod,↓reduceIte,reduceAdd]
  exact ⟨p0,p2,p3,p4⟩
 ·cases hs
def parL (p:List UInt8):List UInt8:=[112,97,114,101,110,116,32] ++ hexL p ++ [10]
def exL (x:ExL):List UInt8:=x.1 ++ [32] ++ subst1 10 [10,32] x.2 ++ [10]
def headC (t:List UInt8):List UInt8:=[116,114,101,101,32] ++ hexL t ++ [10]
def midC (a b:List UInt8):List UInt8:=[97,117,116,104,111,114,32] ++ a ++ [10,99,111,109,109,105,116,116,101,114,32] ++ b ++ [10]
def printC (t:List UInt8) (ps:List (List UInt8)) (a b:List UInt8) (es:List ExL) (m:List UInt8):List UInt8 :=
 headC t ++ ps.flatMap parL ++ midC a b ++ es.flatMap exL ++ ([10] ++ m)
structure ComL where
 tree:List UInt8
 parents:List (List UInt8)
 author:WhoL
 committer:WhoL
 extras:List ExL
 message:List UInt8
def rightC (c:ComL):Bool:=rightW c.author && rightW c.committer && !(c.extras.any badE)
def bodyC (c:ComL):List UInt8:=printC c.tree c.parents (textW c.author) (textW c.committer) c.extras c.message
def sizeOkC (c:ComL):Prop:=(bodyC c).length≤1000000000∧c.tree.length=20∧(∀ p∈c.parents,p.length=20)∧c.parents.length≤1000000∧c.extras.length≤1000000∧(∀ x∈c.extras,x.1.length≤1000000∧x.2.length≤1000000) ∧
 c.author.name.length+c.author.mail.length+c.author.zone.length<4294967000∧c.committer.name.length+c.committer.mail.length+c.committer.zone.length<4294967000
def prnR (c:ComL) (pr:Prop):Option Ret:=if rightC c=true then some ⟨.tup [.own 0 0,.int .i64 0],[.row 5 1 0 (Bs (bodyC c))],pr⟩ else some ⟨.tup [.con (.slice none 0 0),.int .i64 4],[],pr⟩
def prnS:Spec:=fun xs hp=>match xs,hp with
 | [.agg [(20,.blob t),(1,.sl kp ps),(1,.str an),(1,.str am),(1,.int .i64 at'),(1,.str az),(1,.str cn),(1,.str cm),(1,.int .i64 ct),(1,.str cz),(1,.sl ke es),(1,.str m)]],[] =>
  prnR ⟨unV t,ps.map unId,⟨an,am,at',az⟩,⟨cn,cm,ct,cz⟩,es.map unEx,m⟩ (t=(unV t).map U∧ps=(ps.map unId).map idAV∧es=(es.map unEx).map exV∧(kp=20∨ps=[])∧(ke=2∨es=[])∧sizeOkC ⟨unV t,ps.map unId,⟨an,am,at',az⟩,⟨cn,cm,ct,cz⟩,es.map unEx,m⟩)
 | _,_=>none
theorem prnR_t {c:ComL} (pr:Prop) (h:rightC c=true):prnR c pr=some ⟨.tup [.own 0 0,.int .i64 0],[.row 5 1 0 (Bs (bodyC c))],pr⟩:=if_pos h
theorem prnR_f {c:ComL} (pr:Prop) (h:rightC c=false):prnR c pr=some ⟨.tup [.con (.slice none 0 0),.int .i64 4],[],pr⟩:=if_neg (by rw [h]; simp)
theorem rightC_a {c:ComL} (h:rightW c.author=false):rightC c=false:=by unfold rightC; rw [h]; rfl
theorem rightC_b {c:ComL} (h:rightW c.committer=false):rightC c=false:=by unfold rightC; rw [h]; simp
theorem rightC_e {c:ComL} (h:c.extras.any badE=true):rightC c=false:=by unfold rightC; rw [h]; simp
theorem rightC_t {c:ComL} (h1:rightW c.author=true) (h2:rightW c.committer=true) (h3:c.extras.any badE=false):rightC c=true:=by unfold rightC; rw [h1,h2,h3]; rfl
theorem prnR_pre {c:ComL} {pr:Prop} {r:Ret} (h:prnR c pr=some r) (hr:r.pre):pr:=by
 unfold prnR at h
 split at h <;> (injection h with h; subst h; exact hr)
open Go.Lib (itoa atoiAll)
def atoiR (s:List UInt8):Lib.NumEnd Int→AV
 | .ok v=>.tup [.int .i64 v,.con .nilIface]
 | .range=>.tup [.int .i64 (Lib.atoiSat s),.iface 200 .top]
 | _=>.tup [.int .i64 0,.iface 200 .top]
def atoiS:Spec:=fun xs hp=>match xs,hp with
 | [.str s],[]=>some ⟨atoiR s (atoiAll s),[],s.length≤281474976710656⟩
 | _,_=>none
theorem tup2 {w:World} {S:Nat→Prop} {ρ:Rho} {x y:AV} {u v:Value} (hx:Vl1 w S ρ x u) (hy:Vl1 w S ρ y v):Vl w S ρ (.tup [x,y]) (.tuple #[u,v]) :=
 ⟨[u,v],rfl,rfl,fun i hi=>by
  match i,hi with
  | 0,_=>exact hx
  | 1,_=>exact hy⟩
theorem ifaceTop {w:World} {S:Nat→Prop} {ρ:Rho} (t:TypeId) (v:Value) (h:v.oneCell' = true):Vl1 w S ρ (.iface t .top) (.iface t v) :=
 .inr ⟨[.iface t v],.iface t .top [v] (.top _ fun u hu=>by simp only [List.mem_singleton] at hu; subst hu; exact h),rfl⟩
theorem err_cell {w:World} {S:Nat→Prop} {g:Nat} {t:TypeId} {l:List UInt8} (h:GlobOk w S) (hg:glob1 g globs=some (1,.iface t (.ptr 1 (.str l) 0 0))):∃ ev,w.cell? ⟨g,0,none⟩=some ev∧∃ te pe,ev=.iface te pe:=by
 obtain ⟨_,us,ty,fr,h2,_,h4⟩:=h.1 _ _ _ hg
 cases h2 with
 | iface _ _ vs _=>exact ⟨_,by rw [cell_of_row w g 0 _ ty fr h4]; rfl,_,_,rfl⟩
theorem atoi_ok:FnOk Tryz.prog 127 atoiS:=by
 refine fnok_of_calls fun xs0 hp r hs hp' => ?_
 unfold atoiS at hs
 split at hs
 ·rename_i s
  injection hs with hs; subst hs
  refine ⟨rfl,rfl,fun w S ρ args hS ha=>?_⟩
  obtain ⟨v,vs,rfl,hv,hr⟩:=ha.get _ _ rfl
  obtain rfl:=hr.none
  rw [hv.str]
  have hsz:(⟨s.toArray⟩:ByteArray).size=s.length:=rfl
  have hl:s.length≤281474976710656:=hp'
  rcases h:atoiAll s with v | _ | _
  ·refine (Tryz.strconv_Atoi_ok ⟨s.toArray⟩ (by rw [hsz]; omega) v h w).mono ?_
   rintro e w' ⟨rfl,hw⟩
   refine ⟨_,rfl,?_,fun _ _ _=>tup2 (.inr ⟨_,.int _ _,rfl⟩) (.inr ⟨_,.con _ rfl,rfl⟩)⟩
   rcases hw with rfl | ⟨t,rfl⟩
   ·exact Below.refl _ _
   ·exact Lib.bytesWorld_below _ _ _
  ·obtain ⟨ev,h1,te,pe,h2⟩:=err_cell ha.glob (g:=4) rfl
   refine (Tryz.strconv_Atoi_syntax ⟨s.toArray⟩ (by rw [hsz]; omega) (h.trans rfl) ev w h1 (.inr ⟨te,pe,h2⟩)).mono ?_
   rintro e w' ⟨N,rfl,_,_,hb⟩
   exact ⟨_,rfl,hb,fun _ _ _=>tup2 (.inr ⟨_,.int _ _,rfl⟩) (ifaceTop _ _ rfl)⟩
  ·obtain ⟨ev,h1,te,pe,h2⟩:=err_cell ha.glob (g:=5) rfl
   refine (Tryz.strconv_Atoi_range ⟨s.toArray⟩ (by rw [hsz]; omega) h ev w h1 (.inr ⟨te,pe,h2⟩)).mono ?_
   rintro e w' ⟨N,rfl,_,_,hb⟩
   exact ⟨_,rfl,hb,fun _ _ _=>tup2 (.inr ⟨_,.int _ _,rfl⟩) (ifaceTop _ _ rfl)⟩
 ·cases hs
noncomputable def sealF {α β:Type} (f:α→β):α→β:=Classical.choose (⟨f,fun _=>rfl⟩:∃ g:α→β,∀ a,g a=f a)
theorem sealF_eq {α β:Type} (f:α→β) (a:α):sealF f a=f a:=Classical.choose_spec (⟨f,fun _=>rfl⟩:∃ g:α→β,∀ a,g a=f a) a
theorem tdiv_nat (n k:Nat):((n:Int)).tdiv (k:Int)=((n / k:Nat):Int):=by rw [Int.tdiv_eq_ediv_of_nonneg (by omega)]; rfl
theorem tmod_nat (n k:Nat):((n:Int)).tmod (k:Int)=((n % k:Nat):Int):=by rw [Int.tmod_eq_emod_of_nonneg (by omega)]; rfl
theorem wrap8n {n:Nat} (h:n<256):IntKind.u8.wrap (n:Int)=(n:Int):=by rw [IntKind.wrap_u8']; omega
def c_right:ACode:=(.seq (.reg none [oS 2 (.mv (.c (.bool false)))]) (.seq (.reg none [oS 3 (.mv (.t 0)),oS 4 (.bin .geq (.t 3) (.c (.int .i64 0))),oS 5 (.mv (.t 4)),oG 6 (.mv (.t 0)) 5,oG 7 (.bin .lss (.t 6) (.c (.int .i64 4611686018427387904))) 5,oS 8 (.pick (.t 5) (.t 7) (.c (.bool false))),oS 2 (.mv (.t 8))]) .ret))
def r_right:List ARes:=[(.t 2)]
theorem s_right:slimF Tryz.prog Tryz.f128=some (c_right,r_right):=by kernel_rfl
theorem okN_ex:∃ f:Int→Bool,∀ n,f n=decide (0≤n∧n<4611686018427387904):=⟨fun n=>decide (0≤n∧n<4611686018427387904),fun _=>rfl⟩
noncomputable def okN:Int→Bool:=Classical.choose okN_ex
theorem okN_eq (n:Int):okN n=decide (0≤n∧n<4611686018427387904):=Classical.choose_spec okN_ex n
theorem okN_t {n:Int} (h:okN n=true):0≤n∧n<4611686018427387904:=of_decide_eq_true (by rw [← okN_eq]; exact h)
theorem okN_mk {n:Int} (h:0≤n) (h' : n<4611686018427387904):okN n=true:=by rw [okN_eq]; exact decide_eq_true ⟨h,h'⟩
theorem okN_no {n:Int} (h:n<0∨4611686018427387904≤n):okN n=false:=by rw [okN_eq]; exact decide_eq_false (by omega)
noncomputable def rightS:Spec:=fun xs hp=>match xs,hp with
 | [.int .i64 n],[]=>some ⟨.bool (okN n),[],True⟩
 | _,_=>none
theorem right_ok:FnOk Tryz.prog 128 rightS:=by
 refine fn_slim Tryz.func128 s_right (Φ:=phiL []) phi_nil ?_
 intro xs hp r hs hp'
 unfold rightS at hs
 split at hs
 ·injection hs with hs; subst hs
  rename_i n
  refine ⟨len_le (by kernel_rfl),?_⟩
  simp only [c_right,r_right,awp_reg,awp_seq,awp_ret,arun_nil,arun_op,arun_gt,aq_some,isB_t,isB_f,isB_g,isU_b,ifB_t,thenQ_n,retQ_r,astep,stV,aval,slots,aret,ares,aBin,aInt,St.ev,lk,St.put,St.pin,↓reduceIte,reduceEqDiff,true_and,List.length_nil,reduceCtorEq,eq_self,Bool.false_eq_true]
  refine ⟨fun h=>?_,fun h=>?_⟩
  ·have h1:=of_decide_eq_true h
   simp only [renObj,finP,finI,closeIds,addNew,idsOf,List.flatMap_nil,List.take_zero,nodupB,posOf,idsObj,List.range,List.range.loop,ren,lentO,mapO,Option.map,true_and,and_true]
   have:okN n=decide (n<4611686018427387904):=by rw [okN_eq]; simp [h1]
   rw [this]
  ·have h1:=of_decide_eq_false h
   simp only [renObj,finP,finI,closeIds,addNew,idsOf,List.flatMap_nil,List.take_zero,nodupB,posOf,idsObj,List.range,List.range.loop,ren,lentO,mapO,Option.map,true_and,and_true]
   have:okN n=false:=okN_no (by omega)
   rw [this]
 ·cases hs
open Go.Lib (decDigits itoa atoiAll)
noncomputable def decB:List UInt8→Bool:=sealF fun s=>(decV s).isSome
noncomputable def decN:List UInt8→Nat:=sealF fun s=>(decV s).getD 0
theorem decBN_some {s:List UInt8} {n:Nat} (h:decV s=some n):decB s=true∧decN s=n:=by
 unfold decB decN; rw [sealF_eq,sealF_eq]; simp only [h]; exact ⟨rfl,rfl⟩
theorem decB_none {s:List UInt8} (h:decV s=none):decB s=false:=by
 unfold decB; rw [sealF_eq]; simp only [h]; rfl
theorem decB_f {s:List UInt8} (h:decB s=false):decV s=none:=by
 cases h' : decV s with
 | none=>rfl
 | some n=>rw [(decBN_some h').1] at h; cases h
theorem decB_t {s:List UInt8} (h:decB s=true):decV s=some (decN s):=by
 cases h' : decV s with
 | none=>rw [decB_none h'] at h; cases h
 | some n=>rw [(decBN_some h').2]
theorem decB_no {s:List UInt8} (h:∀ v,atoiAll s≠.ok v):decB s=false:=by
 apply decB_none; unfold decV; split
 ·rename_i v e; exact absurd e (h v)
 ·rfl
theorem decB_ok1 {s:List UInt8} {v:Int} (h:atoiAll s=.ok v) (h0:okN v=true) (h1:itoa v=s):decB s=true∧(decN s:Int)=v:=by
 obtain ⟨k1,k2⟩:=okN_t h0
 have e:decV s=some v.toNat:=by unfold decV; rw [h]; exact if_pos ⟨k1,k2,h1⟩
 obtain ⟨a,b⟩:=decBN_some e
 exact ⟨a,by omega⟩
theorem decB_ok0 {s:List UInt8} {v:Int} (h:atoiAll s=.ok v) (h1:okN v=false∨itoa v≠s):decB s=false:=by
 apply decB_none; unfold decV; rw [h]
 refine if_neg ?_
 rintro ⟨a,b,c⟩
 rcases h1 with h1 | h1
 ·rw [okN_mk a b] at h1; cases h1
 ·exact h1 c
def c_fdec:ACode:=(.seq (.reg none [oS 2 (.mv (.c (.int .i64 0))),oS 3 (.mv (.c (.int .i64 0)))]) (.seq (.reg none [oS 7 (.mv (.t 0)),oS 8 (.call 127 [(.t 7)]),oS 6 (.mv (.t 8)),oS 9 (.ext (.t 6) 0),oS 10 (.ext (.t 6) 1),oS 4 (.mv (.t 9)),oS 5 (.mv (.t 10))]) (.seq (.seq (.reg none [oS 11 (.mv (.t 5)),oS 12 (.nilc 0 true (.t 11)),oS 13 (.mv (.t 12)),oH 14 (.mv (.t 4)) 13,oH 15 (.call 128 [(.t 14)]) 13,oH 16 (.un .not (.t 15)) 13,oS 17 (.pick (.t 13) (.c (.bool true)) (.t 16)),oS 18 (.mv (.t 17)),oH 19 (.mv (.t 4)) 18,oH 20 (.call 90 [(.t 19)]) 18,oH 21 (.mv (.t 0)) 18,oH 22 (.bin .neq (.t 20) (.t 21)) 18,oS 23 (.pick (.t 18) (.c (.bool true)) (.t 22))]) (.cond (.t 23) (.seq (.reg none [oS 2 (.mv (.c (.int .i64 0))),oS 3 (.mv (.c (.int .i64 4)))]) .ret) .skip)) (.seq (.reg none [oS 24 (.mv (.t 4)),oS 2 (.mv (.t 24)),oS 3 (.mv (.c (.int .i64 0)))]) .ret))))
def r_fdec:List ARes:=[(.t 2),(.t 3)]
theorem s_fdec:slimF Tryz.prog Tryz.f106=some (c_fdec,r_fdec):=by kernel_rfl
noncomputable def fdecS:Spec:=fun xs hp=>match xs,hp with
 | [.str s],[]=>if decB s=true then some ⟨.tup [.int .i64 (decN s:Int),.int .i64 0],[],s.length≤281474976710656⟩ else some ⟨.tup [.int .i64 0,.int .i64 4],[],s.length≤281474976710656⟩
 | _,_=>none
theorem fdec_ok:FnOk Tryz.prog 106 fdecS:=by
 refine fn_slim2 Tryz.func106 s_fdec (Φ:=phiL [(127,[],atoiS),(128,[],rightS),(90,[],itoaS)]) (phi_cons atoi_ok (by kernel_rfl) (phi_cons right_ok (by kernel_rfl) (phi_cons itoa_ok (by kernel_rfl) phi_nil))) ?_
 intro xs hp r hs hp'
 unfold fdecS at hs
 split at hs
 ·rename_i s
  refine ⟨len_le (by kernel_rfl),?_⟩
  rcases h:atoiAll s with v | _ | _
  ·cases ho:okN v with
   | true =>
    obtain ⟨k1,k2⟩:=okN_t ho
    have hin:inI v:=by (first | omega | (simp only [inI]; omega))
    by_cases hi:itoa v=s
    ·obtain ⟨e1,e2⟩:=decB_ok1 h ho hi
     rw [if_pos e1] at hs; injection hs with hs; subst hs
     have d1:decide (itoa v=s)=true:=decide_eq_true hi
     simp only [c_fdec,r_fdec,atoiS,rightS,itoaS,atoiR,h,ho,e2,d1,go_sem,reduceDiv,reduceMod,↓reduceIte,reduceEqDiff,Nat.reduceLT,reduceAdd]
     exact ⟨hp',hin⟩
    ·have e1:=decB_ok0 h (.inr hi)
     rw [if_neg (by rw [e1]; simp)] at hs; injection hs with hs; subst hs
     have d1:decide (itoa v=s)=false:=decide_eq_false hi
     simp only [c_fdec,r_fdec,atoiS,rightS,itoaS,atoiR,h,ho,d1,go_sem,reduceDiv,reduceMod,↓reduceIte,reduceEqDiff,Nat.reduceLT,reduceAdd]
     exact ⟨hp',hin⟩
   | false =>
    have e1:=decB_ok0 h (.inl ho)
    rw [if_neg (by rw [e1]; simp)] at hs; injection hs with hs; subst hs
    simp only [c_fdec,r_fdec,atoiS,rightS,atoiR,h,ho,go_sem,reduceDiv,reduceMod,↓reduceIte,reduceEqDiff,Nat.reduceLT,reduceAdd]
    exact hp'
  ·have e1:=decB_no (s:=s) (by intro v; rw [h]; simp)
   rw [if_neg (by rw [e1]; simp)] at hs; injection hs with hs; subst hs
   simp only [c_fdec,r_fdec,atoiS,atoiR,h,go_sem,reduceDiv,reduceMod,↓reduceIte,Nat.reduceLT,reduceAdd]
   exact hp'
  ·have e1:=decB_no (s:=s) (by intro v; rw [h]; simp)
   rw [if_neg (by rw [e1]; simp)] at hs; injection hs with hs; subst hs
   simp only [c_fdec,r_fdec,atoiS,atoiR,h,go_sem,reduceDiv,reduceMod,↓reduceIte,Nat.reduceLT,reduceAdd]
   exact hp'
 ·cases hs
def dv (c:UInt8):Int:=Lib.indexByte digs c
theorem indexB_lt (c:UInt8):∀ l:List UInt8,l≠[]→Lib.indexByte l c<(l.length:Int)
 | [],h=>absurd rfl h
 | b :: l,_=>by
  unfold Lib.indexByte
  split
  ·simp only [List.length_cons]; omega
  ·split
   ·simp only [List.length_cons]; omega
   ·rename_i h1 h2
    cases l with
    | nil=>simp [Lib.indexByte] at h2
    | cons b2 l2=>have:=indexB_lt c (b2 :: l2) (by simp); simp at this ⊢; omega
theorem dv_lt (c:UInt8):dv c<16:=indexB_lt c digs (by simp [digs])
def outN (l:List UInt8) (i j:Nat):Nat:=if 2 * j+1<i then 16 * (dv (l.getD (2 * j) 0)).toNat+(dv (l.getD (2 * j+1) 0)).toNat else if 2 * j<i then (dv (l.getD (2 * j) 0)).toNat else 0
theorem outN_lt (l:List UInt8) (i j:Nat):outN l i j<256:=by
 have h1:=dv_lt (l.getD (2 * j) 0)
 have h2:=dv_lt (l.getD (2 * j+1) 0)
 unfold outN; split
 ·omega
 ·split <;> omega
def outC (l:List UInt8) (i:Nat):Array Value:=((List.range 20).map fun j=>Value.int .u8 (outN l i j:Int)).toArray
def outL (l:List UInt8) (i:Nat):List UInt8:=(List.range 20).map fun j=>UInt8.ofNat (outN l i j)
theorem outC_U (l:List UInt8) (i:Nat):outC l i=((outL l i).map U).toArray:=by
 unfold outC outL U
 rw [List.map_map]
 congr 1
 apply List.map_congr_left
 intro j _
 have:=outN_lt l i j
 simp [Nat.mod_eq_of_lt this]
theorem outC_size (l:List UInt8) (i:Nat):(outC l i).size=20:=by simp [outC]
theorem outC_at (l:List UInt8) (i j:Nat) (h:j<20):(outC l i)[j]?=some (.int .u8 (outN l i j:Int)):=by
 simp [outC,h]
theorem outC_zero (l:List UInt8):outC l 0=(List.replicate 20 (Value.int .u8 0)).toArray:=by
 unfold outC outN
 simp
 rfl
theorem outN_other (l:List UInt8) (i j:Nat) (h:j≠i / 2):outN l (i+1) j=outN l i j:=by
 unfold outN
 by_cases h1:2 * j+1<i
 ·rw [if_pos h1,if_pos (by omega)]
 ·rw [if_neg h1,if_neg (by omega)]
  by_cases h2:2 * j<i
  ·rw [if_pos h2,if_pos (by omega)]
  ·rw [if_neg h2,if_neg (by omega)]
theorem outC_step (l:List UInt8) (i:Nat) (E:Int) (hE:E=(outN l (i+1) (i / 2):Int)):(outC l i).setIfInBounds (i / 2) (.int .u8 E)=outC l (i+1):=by
 apply Array.ext
 ·rw [Array.size_setIfInBounds,outC_size,outC_size]
 ·intro j h1 h2
  rw [outC_size] at h2
  rw [Array.size_setIfInBounds] at h1
  have e2:=outC_at l (i+1) j h2
  have e1:=outC_at l i j h2
  rw [Array.getElem?_eq_getElem (by rw [outC_size]; exact h2),Option.some.injEq] at e1 e2
  rw [e2,Array.getElem_setIfInBounds h1]
  by_cases hj:i / 2=j
  ·rw [if_pos hj,hE,hj]
  ·rw [if_neg hj,e1,outN_other l i j (fun h=>hj h.symm)]
theorem outN_even (l:List UInt8) (i:Nat) (h:i % 2=0):outN l i (i / 2)=0∧outN l (i+1) (i / 2)=(dv (l.getD i 0)).toNat:=by
 have e:2 * (i / 2)=i:=by omega
 unfold outN
 rw [e]
 exact ⟨by rw [if_neg (by omega),if_neg (by omega)],by rw [if_neg (by omega),if_pos (by omega)]⟩
theorem outN_odd (l:List UInt8) (i:Nat) (h:i % 2=1):outN l i (i / 2)<16∧outN l (i+1) (i / 2)=16 * outN l i (i / 2)+(dv (l.getD i 0)).toNat:=by
 have e:2 * (i / 2)+1=i:=by omega
 have h1:=dv_lt (l.getD (2 * (i / 2)) 0)
 unfold outN
 rw [e]
 rw [if_neg (show ¬ i<i by omega),if_pos (show 2 * (i / 2)<i by omega),if_pos (show i<i+1 by omega)]
 exact ⟨by omega,rfl⟩
attribute [irreducible] dv outN outC outL
end Go.Proofs.YtgaehhechonegaaGreatDoor
