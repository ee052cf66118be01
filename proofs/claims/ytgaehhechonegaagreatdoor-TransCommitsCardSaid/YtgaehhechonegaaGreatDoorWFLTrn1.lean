import Derived.Test.YtgaehhechonegaaGreatDoorWFTrn4
import Derived.Test.YtgaehhechonegaaGreatDoorChecked
import Derived.Test.YtgaehhechonegaaGreatDoorWAMS
import Derived.Test.YtgaehhechonegaaGreatDoorWChgCode
open Nat (reduceDiv reduceMod reduceSub reduceAdd reduceLeDiff reduceEqDiff)
set_option linter.all false
namespace Go.Proofs.YtgaehhechonegaaGreatDoor
open Go.RowKit
open Go.Lib (index hasPrefix trimPrefix cut indexAny itoa)
def chgF (c:ChgL):AV:=.agg [(20,.blob (c.man.map U)),(1,.str c.user),(1,.int .i64 c.time),(1,.int .i64 c.zone),(1,.sl 2 (c.extras.map exV)),(1,.sl 1 (c.files.map AV.str)),(1,.str c.desc)]
def ltoZ:Spec:=fun xs hp=>match xs,hp with
 | [.agg [(20,.blob t),(1,.sl kq ps),(1,.str an),(1,.str am),(1,.int .i64 at'),(1,.str az),(1,.str cn),(1,.str cm),(1,.int .i64 ct),(1,.str cz),(1,.sl ke es),(1,.str m)]],[] =>
  some ⟨comZ 20 (toC ⟨unV t,ps.map unId,⟨an,am,at',az⟩,⟨cn,cm,ct,cz⟩,es.map unEx,m⟩),[],argC t kq ps ke es∧maxC ⟨unV t,ps.map unId,⟨an,am,at',az⟩,⟨cn,cm,ct,cz⟩,es.map unEx,m⟩⟩
 | _,_=>none
theorem ltoZ_ok:FnOk Tryz.prog 9 ltoZ:=lto_ok.freezeD fun xs hp r' hs hp' => by
 unfold ltoZ at hs
 split at hs
 ·injection hs with hs; subst hs
  refine ⟨rfl,_,rfl,hp',rfl,?_,rfl,rfl⟩
  simp [fzV,fzD,comZ,comOwn,comPs]
 ·cases hs
def lofZ:Spec:=fun xs hp=>match xs,hp with
 | [.agg [(20,.blob t),(1,.sl kq ps),(1,.str an),(1,.str am),(1,.int .i64 at'),(1,.str az),(1,.str cn),(1,.str cm),(1,.int .i64 ct),(1,.str cz),(1,.sl ke es),(1,.str m)]],[] =>
  some ⟨comZ 20 ⟨unV t,ps.map unId,⟨an,am,at',az⟩,⟨cn,cm,ct,cz⟩,es.map unEx,m⟩,[],argC t kq ps ke es∧(unV t).length=20∧(∀ p∈ps.map unId,p.length=20)∧(ps.map unId).length≤1000000∧(es.map unEx).length≤1000000⟩
 | _,_=>none
theorem lofZ_ok:FnOk Tryz.prog 10 lofZ:=lof_ok.freezeD fun xs hp r' hs hp' => by
 unfold lofZ at hs
 split at hs
 ·injection hs with hs; subst hs
  refine ⟨rfl,_,rfl,hp',rfl,?_,rfl,rfl⟩
  simp [fzV,fzD,comZ,comOwn,comPs]
 ·cases hs
def lgtoZ:Spec:=fun xs hp=>match xs,hp with
 | [.agg [(20,.blob m),(1,.str u),(1,.int .i64 t),(1,.int .i64 z),(1,.sl ke es),(1,.sl kf fs),(1,.str d)]],[] =>
  some ⟨chgF (toH ⟨unV m,u,t,z,es.map unEx,fs.map unS,d⟩),[],argG m ke es kf fs∧maxH ⟨unV m,u,t,z,es.map unEx,fs.map unS,d⟩⟩
 | _,_=>none
theorem lgtoZ_ok:FnOk Tryz.prog 18 lgtoZ:=lgto_ok.freezeD fun xs hp r' hs hp' => by
 unfold lgtoZ at hs
 split at hs
 ·injection hs with hs; subst hs
  refine ⟨rfl,_,rfl,hp',rfl,?_,rfl,rfl⟩
  simp [fzV,fzD,chgF,cOwn]
 ·cases hs
def lgofZ:Spec:=fun xs hp=>match xs,hp with
 | [.agg [(20,.blob m),(1,.str u),(1,.int .i64 t),(1,.int .i64 z),(1,.sl ke es),(1,.sl kf fs),(1,.str d)]],[] =>
  some ⟨chgF ⟨unV m,u,t,z,es.map unEx,fs.map unS,d⟩,[],argG m ke es kf fs∧(unV m).length=20∧es.length≤1000000∧fs.length≤1000000⟩
 | _,_=>none
theorem lgofZ_ok:FnOk Tryz.prog 15 lgofZ:=lgof_ok.freezeD fun xs hp r' hs hp' => by
 unfold lgofZ at hs
 split at hs
 ·injection hs with hs; subst hs
  refine ⟨rfl,_,rfl,hp',rfl,?_,rfl,rfl⟩
  simp [fzV,fzD,chgF,cOwn]
 ·cases hs
theorem mz_le (es:List ExL) (k:Nat) (h:∀ x∈es,x.2.length≤k):mz es≤k * es.length:=by
 induction es with
 | nil=>simp [mz]
 | cons x es ih =>
  have h1:=h x (List.mem_cons_self ..)
  have h2:=ih fun y hy=>h y (List.mem_cons_of_mem _ hy)
  simp only [mz,List.map_cons,List.sum_cons,List.length_cons] at h2 ⊢
  rw [Nat.mul_add,Nat.mul_one]; omega
theorem toC_sz (c:ComL) (h:comB c):szC (aloneC (toC c))∧mz (toC c).extras≤10000:=by
 obtain ⟨h1,h2,h3,h4,h5,h6,h7,h8,h9,h10⟩:=toC_len c h
 generalize toC c=d at *
 have hw:=wExt_le d.extras h5
 have hf:=flat_ex d.extras
 have hm:=mz_le d.extras 200 fun x hx=>(h5 x hx).2
 have hw2:402 * d.extras.length≤402 * 20:=Nat.mul_le_mul_left _ h4
 have hm2:200 * d.extras.length≤200 * 20:=Nat.mul_le_mul_left _ h4
 have t1:=textW_le (w:=d.author) h9
 have t2:=textW_le (w:=d.committer) h10
 have hh:=hexL_length zr20
 have hz:(zr20:List UInt8).length=20:=rfl
 refine ⟨⟨?_,by show d.message.length≤90000; omega⟩,by omega⟩
 have:=congrArg List.length (bodyC_shape (noM (aloneC d)))
 simp only [noM,aloneC,List.length_append,List.length_cons,List.flatMap_nil,List.length_nil,treW,autW,comW] at this ⊢
 omega
def whoK:WhoL:=⟨[65],[97],5,[45,48,49,48,48]⟩
def comK:ComL:=⟨zr20,[],whoK,whoK,[],[109]⟩
theorem comK_right:rightC comK=true:=by decide
theorem of_K:(obF 10000).1 comK=plainH comK:=of_plain (of_not fun k v ho=>by cases ho)
def bodyK:List UInt8:=bodyC ⟨zr20,[],whoK,whoK,[],[]⟩
theorem bodyK_len:bodyK.length≤1000:=by
 have t1:=textW_le (w:=whoK) ⟨by decide,by decide⟩
 have hh:=hexL_length zr20
 have hz:(zr20:List UInt8).length=20:=rfl
 have:=congrArg List.length (bodyC_shape ⟨zr20,[],whoK,whoK,[],[]⟩)
 unfold bodyK
 simp only [List.length_append,List.length_cons,List.flatMap_nil,List.length_nil,treW,autW,comW,whoK] at this t1 ⊢
 omega
theorem plain_K:plainH comK=⟨zr20,[65,32,60,97,62],5,0,[(gitW,bodyK)],[],[109]⟩:=rfl
theorem back_K:(obF 10000).2 ⟨zr20,[65,32,60,97,62],5,0,[(gitW,bodyK)],[],[109]⟩=comK:=by
 have h:=back_of (c:=comK) comK_right rfl rfl (n:=10000) (m:=10000) (by decide) (by
  rw [of_K,plain_K]
  have:=bodyK_len
  simp only [mz,List.map_cons,List.map_nil,List.sum_cons,List.sum_nil]; omega)
 rwa [of_K,plain_K] at h
theorem K_right:rightH ⟨zr20,[65,32,60,97,62],5,0,[(gitW,bodyK)],[],[109]⟩=true:=by rw [← plain_K]; exact right_plain comK_right
theorem K_pre:tchgPre 10000 comK:=by
 have hb:=bodyK_len
 refine ⟨?_,⟨by show bodyK.length≤90000; omega,by decide⟩,by decide⟩
 have:=szC_ok (c:=comK) comK_right ⟨by show bodyK.length≤90000; omega,by decide⟩
 have hp:=com_body (c:=comK) comK_right rfl (fun p hp=>by cases hp)
 have:=par_size hp.1 (by
  have h2:=congrArg List.length (bodyC_shape comK)
  have t1:=textW_le (w:=whoK) ⟨by decide,by decide⟩
  have hh:=hexL_length zr20
  have hz:(zr20:List UInt8).length=20:=rfl
  simp only [List.length_append,List.length_cons,List.flatMap_nil,List.length_nil,treW,autW,comW,whoK,comK] at h2 t1 ⊢
  omega)
 rwa [hp.2] at this
theorem K_pre2:tcomPre 10000 ⟨zr20,[65,32,60,97,62],5,0,[(gitW,bodyK)],[],[109]⟩:=by
 have hb:=bodyK_len
 have i5:=Lib.itoa_length_le 5 (by decide) (by decide)
 have i0:=Lib.itoa_length_le 0 (by decide) (by decide)
 have ht:=exsT_le [(gitW,bodyK)] 4000 fun x hx=>by rw [List.mem_singleton.1 hx]; show gitW.length+2 * bodyK.length+2≤4000; have:gitW.length=3:=rfl; omega
 have hs:=subst1_len 10 [10,32] bodyK
 refine ⟨rfl,⟨rfl,by decide,by decide,by decide,fun x hx=>?_,fun f hf=>(by cases hf),?_,by decide,by decide,⟨by decide,by decide⟩,⟨by decide,by decide⟩⟩,⟨?_,by decide⟩,?_⟩
 ·rw [List.mem_singleton.1 hx]; exact ⟨by decide,by show bodyK.length≤1000000; omega⟩
 ·simp only [ownH,List.length_cons,List.length_nil] at ht ⊢; omega
 ·simp only [wordsT,ownH,List.flatMap_cons,List.flatMap_nil,exL,List.length_append,List.length_cons,List.length_nil,gitW] at hs ⊢; omega
 ·simp only [mz,List.map_cons,List.map_nil,List.sum_cons,List.sum_nil]; omega
def tknownS:Spec:=fun xs hp=>match xs,hp with
 | [],[]=>some ⟨.bool true,[],True⟩
 | _,_=>none
set_option maxHeartbeats 4000000 in
theorem tknown_ok:FnOk Tryz.prog 13 tknownS:=by
 refine fn_slim2 Tryz.func13 s_tknown (Φ:=phiL [(11,[],tchgS 10000),(19,[],tcomS 10000)]) (phi_cons (tchg_ok 10000) (by kernel_rfl) (phi_cons (tcom_ok 10000) (by kernel_rfl) phi_nil)) ?_
 intro xs hp r hs hp'
 unfold tknownS at hs
 split at hs
 ·injection hs with hs; subst hs
  refine ⟨len_le (by kernel_rfl),?_⟩
  have e1:∀ pr,tchgR 10000 ⟨unV (List.replicate 20 (Value.int .u8 0)),[],⟨[65],[97],5,[45,48,49,48,48]⟩,⟨[65],[97],5,[45,48,49,48,48]⟩,[],[109]⟩ zChgZ pr=some ⟨.tup [chgZ ⟨zr20,[65,32,60,97,62],5,0,[(gitW,bodyK)],[],[109]⟩,.int .i64 0],[],pr⟩:=fun pr=>by
   have h:(⟨unV (List.replicate 20 (Value.int .u8 0)),[],⟨[65],[97],5,[45,48,49,48,48]⟩,⟨[65],[97],5,[45,48,49,48,48]⟩,[],[109]⟩:ComL)=comK:=rfl
   have h2:aloneC comK=comK:=rfl
   rw [h]
   unfold tchgR
   rw [if_pos comK_right,h2,of_K,plain_K]
  have k1:tchgPre 10000 ⟨unV (List.replicate 20 (Value.int .u8 0)),[],⟨[65],[97],5,[45,48,49,48,48]⟩,⟨[65],[97],5,[45,48,49,48,48]⟩,[],[109]⟩=True:=eq_true K_pre
  have hK:∀ kq,comZ kq comK=.agg [(20,.blob (zr20.map U)),(1,.sl kq []),(1,.str [65]),(1,.str [97]),(1,.int .i64 5),(1,.str [45,48,49,48,48]),(1,.str [65]),(1,.str [97]),(1,.int .i64 5),(1,.str [45,48,49,48,48]),(1,.sl 2 []),(1,.str [109])]:=fun _=>rfl
  have e2:∀ pr,tcomR 10000 ⟨zr20,[65,32,60,97,62],5,0,[(gitW,bodyK)],[],[109]⟩ zComZ pr=some ⟨.tup [comZ (bkK 10000 ⟨zr20,[65,32,60,97,62],5,0,[(gitW,bodyK)],[],[109]⟩) comK,.int .i64 0],[],pr⟩:=fun pr=>by
   unfold tcomR
   have h:ownH ⟨zr20,[65,32,60,97,62],5,0,[(gitW,bodyK)],[],[109]⟩=⟨zr20,[65,32,60,97,62],5,0,[(gitW,bodyK)],[],[109]⟩:=rfl
   rw [h,if_pos K_right,back_K]
  have k2:=eq_true K_pre2
  have hgw:decide (gitW=[103,105,116])=true:=rfl
  simp only [c_tknown,r_tknown,tchgS,tchgSz,tcomS,tcomSz,e1,e2,k2,hK,hgw,chgZ,k1,argC,argG,unV_U,unEx_ag,exV,List.map_cons,List.map_nil,go_sem,reduceDiv,reduceMod,↓reduceIte,reduceEqDiff,reduceSub,Nat.reduceLT,reduceAdd,reduceLeDiff,reduceCtorEq,Int.reduceLT,Int.reduceLE,Int.reduceToNat]
  (repeat' apply And.intro)
  all_goals first | rfl | trivial | exact K_pre.1 | exact .inl trivial | exact .inr trivial | skip
 ·cases hs
def c_ralone:ACode:=(.seq (.reg none [oS 1 (.box 28 31 (.t 0)),oS 2 (.new 28 [(20,(.blob (List.replicate 20 (.int .u8 0)))),(1,(.con (.slice none 0 0))),(1,(.str [])),(1,(.str [])),(1,(.int .i64 0)),(1,(.str [])),(1,(.str [])),(1,(.str [])),(1,(.int .i64 0)),(1,(.str [])),(1,(.con (.slice none 0 0))),(1,(.str []))])]) (.seq (.reg none [oS 3 (.fa 21 (.t 1)),oS 4 (.ld (.st 4) (.t 3)),oS 5 (.fa 25 (.t 1)),oS 6 (.ld (.st 4) (.t 5)),oS 7 (.fa 29 (.t 1)),oS 8 (.ld (.one (.con (.slice none 0 0))) (.t 7)),oS 9 (.fa 30 (.t 1)),oS 10 (.ld (.one (.str [])) (.t 9)),oS 11 (.build [(20,(.blob (List.replicate 20 (.int .u8 0)))),(1,(.con (.slice none 0 0))),(1,(.str [])),(1,(.str [])),(1,(.int .i64 0)),(1,(.str [])),(1,(.str [])),(1,(.str [])),(1,(.int .i64 0)),(1,(.str [])),(1,(.con (.slice none 0 0))),(1,(.str []))] [(21,(4,(.t 4))),(25,(4,(.t 6))),(29,(1,(.t 8))),(30,(1,(.t 10)))]),oN (.st (.st 31) (.t 2) (.t 11))]) .ret))
def r_ralone:List ARes:=[(.c 2 (.st 31))]
theorem s_ralone:slimF Tryz.prog Tryz.f23=some (c_ralone,r_ralone):=by kernel_rfl
def c_rown:ACode:=(.seq (.reg none [oS 1 (.box 49 26 (.t 0)),oS 2 (.new 49 [(20,(.blob (List.replicate 20 (.int .u8 0)))),(1,(.str [])),(1,(.int .i64 0)),(1,(.int .i64 0)),(1,(.con (.slice none 0 0))),(1,(.con (.slice none 0 0))),(1,(.str []))])]) (.seq (.reg none [oS 3 (.fa 20 (.t 1)),oS 4 (.ld (.one (.str [])) (.t 3)),oS 5 (.fa 21 (.t 1)),oS 6 (.ld (.one (.int .i64 0)) (.t 5)),oS 7 (.fa 22 (.t 1)),oS 8 (.ld (.one (.int .i64 0)) (.t 7)),oS 9 (.fa 23 (.t 1)),oS 10 (.ld (.one (.con (.slice none 0 0))) (.t 9)),oS 11 (.fa 25 (.t 1)),oS 12 (.ld (.one (.str [])) (.t 11)),oS 13 (.build [(20,(.blob (List.replicate 20 (.int .u8 0)))),(1,(.str [])),(1,(.int .i64 0)),(1,(.int .i64 0)),(1,(.con (.slice none 0 0))),(1,(.con (.slice none 0 0))),(1,(.str []))] [(20,(1,(.t 4))),(21,(1,(.t 6))),(22,(1,(.t 8))),(23,(1,(.t 10))),(25,(1,(.t 12)))]),oN (.st (.st 26) (.t 2) (.t 13))]) .ret))
def r_rown:List ARes:=[(.c 2 (.st 26))]
theorem s_rown:slimF Tryz.prog Tryz.f21=some (c_rown,r_rown):=by kernel_rfl
def b_rwords_0:ACode:=(.seq (.seq (.reg none [oS 34 (.mv (.t 7)),oS 35 (.mv (.t 5)),oS 36 (.len none true (.t 35)),oS 37 (.bin .lss (.t 34) (.t 36))]) (.cond (.t 37) .skip (.exit 2))) (.seq (.block 3 (.seq (.reg none [oS 40 (.mv (.t 6)),oS 41 (.mv (.t 5)),oS 42 (.mv (.t 7)),oS 43 (.mv (.t 7)),oS 44 (.bin .add (.t 43) (.c (.int .i64 1))),oS 45 (.slS (.t 41) (some (.t 42)) (some (.t 44))),oS 46 (.bin .add (.t 40) (.t 45)),oS 6 (.mv (.t 46))]) (.seq (.reg none [oS 47 (.mv (.t 5)),oS 48 (.mv (.t 7)),oS 49 (.idxS (.t 47) (.t 48)),oS 50 (.bin .eql (.t 49) (.c (.int .u8 10)))]) (.cond (.t 50) (.reg none [oS 51 (.mv (.t 6)),oS 52 (.bin .add (.t 51) (.c (.str [32]))),oS 6 (.mv (.t 52))]) .skip)))) (.reg none [oS 38 (.mv (.t 7)),oS 39 (.bin .add (.t 38) (.c (.int .i64 1))),oS 7 (.mv (.t 39))])))
def t_rwords_0:ACode:=(.reg none [oS 53 (.mv (.t 3)),oS 54 (.fa 23 (.t 1)),oS 55 (.ld (.one (.con (.slice none 0 0))) (.t 54)),oS 56 (.mv (.t 4)),oS 57 (.ia 2 (.agg [(1,(.str [])),(1,(.str []))]) (.t 55) (.t 56)),oS 58 (.fa 0 (.t 57)),oS 59 (.ld (.one (.str [])) (.t 58)),oS 60 (.bin .add (.t 53) (.t 59)),oS 61 (.bin .add (.t 60) (.c (.str [32]))),oS 62 (.mv (.t 6)),oS 63 (.bin .add (.t 61) (.t 62)),oS 64 (.bin .add (.t 63) (.c (.str [10]))),oS 3 (.mv (.t 64))])
def t_rwords_1:ACode:=(.reg none [oS 26 (.mv (.t 4)),oS 27 (.bin .add (.t 26) (.c (.int .i64 1))),oS 4 (.mv (.t 27))])
def b_rwords_1:ACode:=(.seq (.seq (.reg none [oS 21 (.mv (.t 4)),oS 22 (.fa 23 (.t 1)),oS 23 (.ld (.one (.con (.slice none 0 0))) (.t 22)),oS 24 (.len none false (.t 23)),oS 25 (.bin .lss (.t 21) (.t 24))]) (.cond (.t 25) .skip (.exit 0))) (.seq (.block 1 (.seq (.reg none [oS 28 (.fa 23 (.t 1)),oS 29 (.ld (.one (.con (.slice none 0 0))) (.t 28)),oS 30 (.mv (.t 4)),oS 31 (.ia 2 (.agg [(1,(.str [])),(1,(.str []))]) (.t 29) (.t 30)),oS 32 (.fa 1 (.t 31)),oS 33 (.ld (.one (.str [])) (.t 32)),oS 5 (.mv (.t 33))]) (.seq (.reg none [oS 6 (.mv (.c (.str [])))]) (.seq (.seq (.reg none [oS 7 (.mv (.c (.int .i64 0)))]) (.block 2 (.loop b_rwords_0))) t_rwords_0)))) t_rwords_1))
def t_rwords_2:ACode:=(.seq (.reg none [oS 65 (.mv (.t 3)),oS 2 (.mv (.t 65))]) .ret)
def c_rwords:ACode:=(.seq (.reg none [oS 1 (.box 49 26 (.t 0)),oS 2 (.mv (.c (.str [])))]) (.seq (.reg (some [(0,false),(1,false),(2,false),(3,false),(4,false),(5,false),(6,false),(7,false),(5,false),(5,false),(10,false),(11,true),(12,true),(13,true)]) [oS 8 (.fa 20 (.t 1)),oS 9 (.ld (.one (.str [])) (.t 8)),oS 10 (.bin .add (.t 9) (.c (.str [10]))),oS 11 (.fa 21 (.t 1)),oS 12 (.ld (.one (.int .i64 0)) (.t 11)),oS 13 (.call 44 [(.t 12)]),oS 14 (.bin .add (.t 10) (.t 13)),oS 15 (.bin .add (.t 14) (.c (.str [32]))),oS 16 (.fa 22 (.t 1)),oS 17 (.ld (.one (.int .i64 0)) (.t 16)),oS 18 (.call 44 [(.t 17)]),oS 19 (.bin .add (.t 15) (.t 18)),oS 20 (.bin .add (.t 19) (.c (.str [10]))),oS 3 (.mv (.t 20))]) (.seq (.seq (.reg none [oS 4 (.mv (.c (.int .i64 0)))]) (.block 0 (.loop b_rwords_1))) t_rwords_2)))
def r_rwords:List ARes:=[(.t 2)]
theorem s_rwords:slimF Tryz.prog Tryz.f25=some (c_rwords,r_rwords):=by kernel_rfl
def b_rline_0:ACode:=(.seq (.seq (.reg none [oS 5 (.mv (.t 4)),oS 6 (.mv (.t 0)),oS 7 (.len none true (.t 6)),oS 8 (.bin .lss (.t 5) (.t 7))]) (.cond (.t 8) .skip (.exit 0))) (.seq (.block 1 (.seq (.reg none [oS 11 (.mv (.t 0)),oS 12 (.mv (.t 4)),oS 13 (.idxS (.t 11) (.t 12)),oS 14 (.bin .eql (.t 13) (.c (.int .u8 10)))]) (.cond (.t 14) (.seq (.reg (some [(0,false),(1,false),(2,false),(3,false),(4,false),(5,false),(6,false),(7,false),(8,true)]) [oS 15 (.mv (.t 0)),oS 16 (.mv (.t 4)),oS 17 (.slS (.t 15) none (some (.t 16))),oS 18 (.mv (.t 0)),oS 19 (.mv (.t 4)),oS 20 (.bin .add (.t 19) (.c (.int .i64 1))),oS 21 (.slS (.t 18) (some (.t 20)) none),oS 2 (.mv (.t 17)),oS 3 (.mv (.t 21))]) .ret) .skip))) (.reg none [oS 9 (.mv (.t 4)),oS 10 (.bin .add (.t 9) (.c (.int .i64 1))),oS 4 (.mv (.t 10))])))
def t_rline_0:ACode:=(.seq (.reg none [oS 22 (.mv (.t 0)),oS 2 (.mv (.t 22)),oS 3 (.mv (.c (.str [])))]) .ret)
def c_rline:ACode:=(.seq (.reg none [oS 2 (.mv (.c (.str []))),oS 3 (.mv (.c (.str [])))]) (.seq (.seq (.reg none [oS 4 (.mv (.c (.int .i64 0)))]) (.block 0 (.loop b_rline_0))) t_rline_0))
def r_rline:List ARes:=[(.t 2),(.t 3)]
theorem s_rline:slimF Tryz.prog Tryz.f58=some (c_rline,r_rline):=by kernel_rfl
def b_rblank_0:ACode:=(.seq (.seq (.reg none [oS 5 (.mv (.t 4)),oS 6 (.mv (.t 0)),oS 7 (.len none true (.t 6)),oS 8 (.bin .lss (.t 5) (.t 7))]) (.cond (.t 8) .skip (.exit 0))) (.seq (.block 1 (.seq (.reg none [oS 11 (.mv (.t 0)),oS 12 (.mv (.t 4)),oS 13 (.idxS (.t 11) (.t 12)),oS 14 (.bin .eql (.t 13) (.c (.int .u8 32)))]) (.cond (.t 14) (.seq (.reg (some [(0,false),(1,false),(2,false),(3,false),(4,false),(5,false),(6,false),(7,false),(8,true)]) [oS 15 (.mv (.t 0)),oS 16 (.mv (.t 4)),oS 17 (.slS (.t 15) none (some (.t 16))),oS 18 (.mv (.t 0)),oS 19 (.mv (.t 4)),oS 20 (.bin .add (.t 19) (.c (.int .i64 1))),oS 21 (.slS (.t 18) (some (.t 20)) none),oS 2 (.mv (.t 17)),oS 3 (.mv (.t 21))]) .ret) .skip))) (.reg none [oS 9 (.mv (.t 4)),oS 10 (.bin .add (.t 9) (.c (.int .i64 1))),oS 4 (.mv (.t 10))])))
def t_rblank_0:ACode:=(.seq (.reg none [oS 22 (.mv (.t 0)),oS 2 (.mv (.t 22)),oS 3 (.mv (.c (.str [])))]) .ret)
def c_rblank:ACode:=(.seq (.reg none [oS 2 (.mv (.c (.str []))),oS 3 (.mv (.c (.str [])))]) (.seq (.seq (.reg none [oS 4 (.mv (.c (.int .i64 0)))]) (.block 0 (.loop b_rblank_0))) t_rblank_0))
def r_rblank:List ARes:=[(.t 2),(.t 3)]
theorem s_rblank:slimF Tryz.prog Tryz.f59=some (c_rblank,r_rblank):=by kernel_rfl
def c_rnumb:ACode:=(.seq (.reg none [oS 2 (.mv (.c (.int .i64 0)))]) (.seq (.seq (.reg none [oS 7 (.mv (.t 0)),oS 8 (.len none true (.t 7)),oS 9 (.bin .gtr (.t 8) (.c (.int .i64 0))),oS 10 (.mv (.t 9)),oG 11 (.mv (.t 0)) 10,oG 12 (.idxS (.t 11) (.c (.int .i64 0))) 10,oG 13 (.bin .eql (.t 12) (.c (.int .u8 45))) 10,oS 14 (.pick (.t 10) (.t 13) (.c (.bool false)))]) (.cond (.t 14) (.seq (.reg none [oS 16 (.mv (.t 0)),oS 17 (.slS (.t 16) (some (.c (.int .i64 1))) none),oS 18 (.call 86 [(.t 17)]),oS 15 (.mv (.t 18)),oS 19 (.ext (.t 15) 0),oS 20 (.ext (.t 15) 1),oS 3 (.mv (.t 19)),oS 4 (.mv (.t 20))]) (.seq (.reg none [oS 21 (.mv (.t 3)),oS 22 (.un .neg (.t 21)),oS 2 (.mv (.t 22))]) .ret)) .skip)) (.seq (.reg none [oS 24 (.mv (.t 0)),oS 25 (.call 86 [(.t 24)]),oS 23 (.mv (.t 25)),oS 26 (.ext (.t 23) 0),oS 27 (.ext (.t 23) 1),oS 5 (.mv (.t 26)),oS 6 (.mv (.t 27))]) (.seq (.reg none [oS 28 (.mv (.t 5)),oS 2 (.mv (.t 28))]) .ret))))
def r_rnumb:List ARes:=[(.t 2)]
theorem s_rnumb:slimF Tryz.prog Tryz.f60=some (c_rnumb,r_rnumb):=by kernel_rfl
def b_rspk_0:ACode:=(.seq (.seq (.reg none [oS 39 (.mv (.t 7)),oS 40 (.bin .neq (.t 39) (.c (.str [])))]) (.cond (.t 40) .skip (.exit 0))) (.block 1 (.seq (.reg none [oS 42 (.mv (.t 7)),oS 43 (.call 58 [(.t 42)]),oS 41 (.mv (.t 43)),oS 44 (.ext (.t 41) 0),oS 45 (.ext (.t 41) 1),oS 12 (.mv (.t 44)),oS 13 (.mv (.t 45))]) (.seq (.reg none [oS 46 (.mv (.t 13)),oS 7 (.mv (.t 46))]) (.seq (.reg none [oS 47 (.fa 23 (.t 11)),oS 48 (.ld (.one (.con (.slice none 0 0))) (.t 47)),oS 49 (.len none false (.t 48)),oS 14 (.mv (.t 49))]) (.seq (.seq (.reg none [oS 50 (.mv (.t 14)),oS 51 (.bin .gtr (.t 50) (.c (.int .i64 0))),oS 52 (.mv (.t 51)),oG 53 (.mv (.t 12)) 52,oG 54 (.len none true (.t 53)) 52,oG 55 (.bin .gtr (.t 54) (.c (.int .i64 0))) 52,oS 56 (.pick (.t 52) (.t 55) (.c (.bool false))),oS 57 (.mv (.t 56)),oG 58 (.mv (.t 12)) 57,oG 59 (.idxS (.t 58) (.c (.int .i64 0))) 57,oG 60 (.bin .eql (.t 59) (.c (.int .u8 32))) 57,oS 61 (.pick (.t 57) (.t 60) (.c (.bool false)))]) (.cond (.t 61) (.seq (.reg (some [(0,false),(1,false),(2,false),(3,false),(4,false),(5,false),(6,false),(7,false),(8,false),(9,false),(10,false),(11,false),(12,false),(13,false),(14,false),(15,true),(16,true),(17,true)]) [oS 62 (.fa 23 (.t 11)),oS 63 (.ld (.one (.con (.slice none 0 0))) (.t 62)),oS 64 (.mv (.t 14)),oS 65 (.bin .sub (.t 64) (.c (.int .i64 1))),oS 66 (.fa 23 (.t 11)),oS 67 (.ld (.one (.con (.slice none 0 0))) (.t 66)),oS 68 (.mv (.t 14)),oS 69 (.bin .sub (.t 68) (.c (.int .i64 1))),oS 70 (.ia 2 (.agg [(1,(.str [])),(1,(.str []))]) (.t 67) (.t 69)),oS 71 (.fa 1 (.t 70)),oS 72 (.ld (.one (.str [])) (.t 71)),oS 73 (.bin .add (.t 72) (.c (.str [10]))),oS 74 (.mv (.t 12)),oS 75 (.slS (.t 74) (some (.c (.int .i64 1))) none),oS 76 (.bin .add (.t 73) (.t 75)),oS 77 (.ia 2 (.agg [(1,(.str [])),(1,(.str []))]) (.t 63) (.t 65)),oS 78 (.fa 1 (.t 77)),oN (.st (.one (.str [])) (.t 78) (.t 76))]) (.exit 1)) .skip)) (.seq (.reg none [oS 80 (.mv (.t 12)),oS 81 (.call 59 [(.t 80)]),oS 79 (.mv (.t 81)),oS 82 (.ext (.t 79) 0),oS 83 (.ext (.t 79) 1),oS 15 (.mv (.t 82)),oS 16 (.mv (.t 83))]) (.reg none [oS 84 (.fa 23 (.t 11)),oS 85 (.ld (.one (.con (.slice none 0 0))) (.t 84)),oS 86 (.mv (.t 15)),oS 87 (.mv (.t 16)),oS 88 (.build [(1,(.str [])),(1,(.str []))] [(0,(1,(.t 86))),(1,(1,(.t 87)))]),oS 89 (.buildSl 63 2 [(.t 88)]),oS 90 (.app 63 2 32 (.t 85) (.t 89)),oS 91 (.fa 23 (.t 11)),oN (.st (.one (.con (.slice none 0 0))) (.t 91) (.t 90))]))))))))
def t_rspk_0:ACode:=(.seq (.reg (some [(0,false),(1,false),(2,false),(3,false),(4,false),(5,false),(5,false),(7,false),(8,false),(9,true),(10,true)]) [oS 92 (.ld (.st 26) (.t 11)),oS 93 (.ld (.st 26) (.t 11)),oS 94 (.call 20 [(.t 93)]),oS 95 (.mv (.t 94)),oG 96 (.ld (.st 26) (.t 11)) 95,oG 97 (.call 25 [(.t 96)]) 95,oG 98 (.mv (.t 0)) 95,oG 99 (.bin .eql (.t 97) (.t 98)) 95,oS 100 (.pick (.t 95) (.t 99) (.c (.bool false))),oN (.st (.st 26) (.t 4) (.t 92)),oS 5 (.mv (.t 100))]) .ret)
def c_rspk:ACode:=(.seq (.reg none [oS 4 (.new 49 [(20,(.blob (List.replicate 20 (.int .u8 0)))),(1,(.str [])),(1,(.int .i64 0)),(1,(.int .i64 0)),(1,(.con (.slice none 0 0))),(1,(.con (.slice none 0 0))),(1,(.str []))]),oS 5 (.mv (.c (.bool false)))]) (.seq (.reg none [oS 18 (.mv (.t 0)),oS 19 (.call 58 [(.t 18)]),oS 17 (.mv (.t 19)),oS 20 (.ext (.t 17) 0),oS 21 (.ext (.t 17) 1),oS 6 (.mv (.t 20)),oS 7 (.mv (.t 21))]) (.seq (.reg none [oS 23 (.mv (.t 7)),oS 24 (.call 58 [(.t 23)]),oS 22 (.mv (.t 24)),oS 25 (.ext (.t 22) 0),oS 26 (.ext (.t 22) 1),oS 8 (.mv (.t 25)),oS 7 (.mv (.t 26))]) (.seq (.reg none [oS 28 (.mv (.t 8)),oS 29 (.call 59 [(.t 28)]),oS 27 (.mv (.t 29)),oS 30 (.ext (.t 27) 0),oS 31 (.ext (.t 27) 1),oS 9 (.mv (.t 30)),oS 10 (.mv (.t 31))]) (.seq (.reg none [oS 32 (.mv (.t 6)),oS 33 (.mv (.t 9)),oS 34 (.call 60 [(.t 33)]),oS 35 (.mv (.t 10)),oS 36 (.call 60 [(.t 35)]),oS 37 (.mv (.t 1)),oS 38 (.build [(20,(.blob (List.replicate 20 (.int .u8 0)))),(1,(.str [])),(1,(.int .i64 0)),(1,(.int .i64 0)),(1,(.con (.slice none 0 0))),(1,(.con (.slice none 0 0))),(1,(.str []))] [(20,(1,(.t 32))),(21,(1,(.t 34))),(22,(1,(.t 36))),(25,(1,(.t 37)))]),oS 11 (.new 49 [(20,(.blob (List.replicate 20 (.int .u8 0)))),(1,(.str [])),(1,(.int .i64 0)),(1,(.int .i64 0)),(1,(.con (.slice none 0 0))),(1,(.con (.slice none 0 0))),(1,(.str []))]),oN (.st (.st 26) (.t 11) (.t 38))]) (.seq (.block 0 (.loop b_rspk_0)) t_rspk_0))))))
def r_rspk:List ARes:=[(.c 4 (.st 26)),(.t 5)]
theorem s_rspk:slimF Tryz.prog Tryz.f34=some (c_rspk,r_rspk):=by kernel_rfl
def k_rchg_3:ACode:=(.seq (.reg none [oS 39 (.ld (.st 31) (.t 1)),oS 5 (.new 28 [(20,(.blob (List.replicate 20 (.int .u8 0)))),(1,(.con (.slice none 0 0))),(1,(.str [])),(1,(.str [])),(1,(.int .i64 0)),(1,(.str [])),(1,(.str [])),(1,(.str [])),(1,(.int .i64 0)),(1,(.str [])),(1,(.con (.slice none 0 0))),(1,(.str []))]),oN (.st (.st 31) (.t 5) (.t 39))]) (.seq (.reg none [oS 40 (.fa 30 (.t 5)),oN (.st (.one (.str [])) (.t 40) (.c (.str [])))]) (.seq (.reg (some [(0,false),(1,false),(2,false),(3,false),(4,false),(5,false),(6,false),(7,false),(8,false),(9,false),(10,false),(11,false),(12,false),(13,false),(14,false),(15,false),(16,false),(17,false),(18,true),(19,true)]) [oS 41 (.fa 21 (.t 1)),oS 42 (.fa 0 (.t 41)),oS 43 (.ld (.one (.str [])) (.t 42)),oS 44 (.bin .add (.t 43) (.c (.str [32,60]))),oS 45 (.fa 21 (.t 1)),oS 46 (.fa 1 (.t 45)),oS 47 (.ld (.one (.str [])) (.t 46)),oS 48 (.bin .add (.t 44) (.t 47)),oS 49 (.bin .add (.t 48) (.c (.str [62]))),oS 50 (.fa 21 (.t 1)),oS 51 (.fa 2 (.t 50)),oS 52 (.ld (.one (.int .i64 0)) (.t 51)),oS 53 (.fa 30 (.t 1)),oS 54 (.ld (.one (.str [])) (.t 53)),oS 55 (.ld (.st 31) (.t 5)),oS 56 (.call 24 [(.t 55)]),oS 57 (.build [(1,(.str [])),(1,(.str []))] [(0,(1,(.c (.str [103,105,116])))),(1,(1,(.t 56)))]),oS 58 (.buildSl 63 2 [(.t 57)]),oS 59 (.build [(20,(.blob (List.replicate 20 (.int .u8 0)))),(1,(.str [])),(1,(.int .i64 0)),(1,(.int .i64 0)),(1,(.con (.slice none 0 0))),(1,(.con (.slice none 0 0))),(1,(.str []))] [(20,(1,(.t 49))),(21,(1,(.t 52))),(25,(1,(.t 54))),(23,(1,(.t 58)))]),oN (.st (.st 26) (.t 2) (.t 59))]) .ret)))
def c_rchg:ACode:=(.seq (.reg none [oS 1 (.box 28 31 (.t 0)),oS 2 (.new 49 [(20,(.blob (List.replicate 20 (.int .u8 0)))),(1,(.str [])),(1,(.int .i64 0)),(1,(.int .i64 0)),(1,(.con (.slice none 0 0))),(1,(.con (.slice none 0 0))),(1,(.str []))])]) (.seq (.reg none [oS 6 (.ld (.st 31) (.t 1)),oS 7 (.call 23 [(.t 6)]),oN (.st (.st 31) (.t 1) (.t 7))]) (.seq (.seq (.reg none [oS 8 (.fa 29 (.t 1)),oS 9 (.ld (.one (.con (.slice none 0 0))) (.t 8)),oS 10 (.len none false (.t 9)),oS 11 (.bin .eql (.t 10) (.c (.int .i64 1))),oS 12 (.mv (.t 11)),oG 13 (.fa 29 (.t 1)) 12,oG 14 (.ld (.one (.con (.slice none 0 0))) (.t 13)) 12,oG 15 (.ia 2 (.agg [(1,(.str [])),(1,(.str []))]) (.t 14) (.c (.int .i64 0))) 12,oG 16 (.fa 0 (.t 15)) 12,oG 17 (.ld (.one (.str [])) (.t 16)) 12,oG 18 (.bin .eql (.t 17) (.c (.str [104,103]))) 12,oS 19 (.pick (.t 12) (.t 18) (.c (.bool false)))]) (.cond (.t 19) (.seq (.reg (some [(0,false),(1,false),(2,false),(3,false),(4,false),(5,false),(6,false),(7,false),(8,false),(9,false),(10,false),(11,false),(12,true),(13,true)]) [oS 21 (.fa 29 (.t 1)),oS 22 (.ld (.one (.con (.slice none 0 0))) (.t 21)),oS 23 (.ia 2 (.agg [(1,(.str [])),(1,(.str []))]) (.t 22) (.c (.int .i64 0))),oS 24 (.fa 1 (.t 23)),oS 25 (.ld (.one (.str [])) (.t 24)),oS 26 (.fa 30 (.t 1)),oS 27 (.ld (.one (.str [])) (.t 26)),oS 28 (.callP 34 [(.t 25),(.t 27)]),oS 20 (.mv (.t 28)),oS 29 (.ext (.t 20) 0),oS 30 (.ext (.t 20) 1),oS 3 (.new 49 [(20,(.blob (List.replicate 20 (.int .u8 0)))),(1,(.str [])),(1,(.int .i64 0)),(1,(.int .i64 0)),(1,(.con (.slice none 0 0))),(1,(.con (.slice none 0 0))),(1,(.str []))]),oN (.st (.st 26) (.t 3) (.t 29)),oS 4 (.mv (.t 30))]) (.seq (.reg (some [(0,true),(1,true),(2,false),(3,false),(3,false),(5,true),(6,true)]) [oS 31 (.mv (.t 4)),oS 32 (.mv (.t 31)),oG 33 (.ld (.st 26) (.t 3)) 32,oG 34 (.call 22 [(.t 33)]) 32,oG 35 (.ld (.st 31) (.t 1)) 32,oG 36 (.call 17 [(.t 34),(.t 35)]) 32,oS 37 (.pick (.t 32) (.t 36) (.c (.bool false)))]) (.cond (.t 37) (.seq (.reg none [oS 38 (.ld (.st 26) (.t 3)),oN (.st (.st 26) (.t 2) (.t 38))]) .ret) .skip))) .skip)) k_rchg_3)))
def r_rchg:List ARes:=[(.c 2 (.st 26))]
theorem s_rchg:slimF Tryz.prog Tryz.f16=some (c_rchg,r_rchg):=by kernel_rfl
def k_rcom_3:ACode:=(.seq (.reg none [oS 55 (.fa 21 (.t 1)),oS 56 (.ld (.one (.int .i64 0)) (.t 55)),oS 57 (.build [(1,(.str [])),(1,(.str [])),(1,(.int .i64 0)),(1,(.str []))] [(0,(1,(.c (.str [104,103])))),(1,(1,(.c (.str [104,103])))),(2,(1,(.t 56))),(3,(1,(.c (.str [43,48,48,48,48]))))]),oS 5 (.new 25 [(1,(.str [])),(1,(.str [])),(1,(.int .i64 0)),(1,(.str []))]),oN (.st (.st 4) (.t 5) (.t 57))]) (.seq (.reg (some [(0,false),(1,false),(2,false),(3,false),(4,false),(5,false),(6,false),(7,false),(8,true),(9,true)]) [oS 58 (.ld (.st 4) (.t 5)),oS 59 (.ld (.st 4) (.t 5)),oS 60 (.fa 25 (.t 1)),oS 61 (.ld (.one (.str [])) (.t 60)),oS 62 (.ld (.st 26) (.t 1)),oS 63 (.call 25 [(.t 62)]),oS 64 (.build [(1,(.str [])),(1,(.str []))] [(0,(1,(.c (.str [104,103])))),(1,(1,(.t 63)))]),oS 65 (.buildSl 65 2 [(.t 64)]),oS 66 (.build [(20,(.blob (List.replicate 20 (.int .u8 0)))),(1,(.con (.slice none 0 0))),(1,(.str [])),(1,(.str [])),(1,(.int .i64 0)),(1,(.str [])),(1,(.str [])),(1,(.str [])),(1,(.int .i64 0)),(1,(.str [])),(1,(.con (.slice none 0 0))),(1,(.str []))] [(21,(4,(.t 58))),(25,(4,(.t 59))),(30,(1,(.t 61))),(29,(1,(.t 65)))]),oN (.st (.st 31) (.t 2) (.t 66))]) .ret))
def c_rcom:ACode:=(.seq (.reg none [oS 1 (.box 49 26 (.t 0)),oS 2 (.new 28 [(20,(.blob (List.replicate 20 (.int .u8 0)))),(1,(.con (.slice none 0 0))),(1,(.str [])),(1,(.str [])),(1,(.int .i64 0)),(1,(.str [])),(1,(.str [])),(1,(.str [])),(1,(.int .i64 0)),(1,(.str [])),(1,(.con (.slice none 0 0))),(1,(.str []))])]) (.seq (.reg none [oS 6 (.ld (.st 26) (.t 1)),oS 7 (.call 21 [(.t 6)]),oN (.st (.st 26) (.t 1) (.t 7))]) (.seq (.seq (.reg none [oS 8 (.fa 23 (.t 1)),oS 9 (.ld (.one (.con (.slice none 0 0))) (.t 8)),oS 10 (.len none false (.t 9)),oS 11 (.bin .eql (.t 10) (.c (.int .i64 1))),oS 12 (.mv (.t 11)),oG 13 (.fa 23 (.t 1)) 12,oG 14 (.ld (.one (.con (.slice none 0 0))) (.t 13)) 12,oG 15 (.ia 2 (.agg [(1,(.str [])),(1,(.str []))]) (.t 14) (.c (.int .i64 0))) 12,oG 16 (.fa 0 (.t 15)) 12,oG 17 (.ld (.one (.str [])) (.t 16)) 12,oG 18 (.bin .eql (.t 17) (.c (.str [103,105,116]))) 12,oS 19 (.pick (.t 12) (.t 18) (.c (.bool false)))]) (.cond (.t 19) (.seq (.reg none [oS 21 (.fa 23 (.t 1)),oS 22 (.ld (.one (.con (.slice none 0 0))) (.t 21)),oS 23 (.ia 2 (.agg [(1,(.str [])),(1,(.str []))]) (.t 22) (.c (.int .i64 0))),oS 24 (.fa 1 (.t 23)),oS 25 (.ld (.one (.str [])) (.t 24)),oS 26 (.call 40 [(.t 25)]),oS 20 (.mv (.t 26)),oS 27 (.ext (.t 20) 0),oS 28 (.ext (.t 20) 1),oS 3 (.new 28 [(20,(.blob (List.replicate 20 (.int .u8 0)))),(1,(.con (.slice none 0 0))),(1,(.str [])),(1,(.str [])),(1,(.int .i64 0)),(1,(.str [])),(1,(.str [])),(1,(.str [])),(1,(.int .i64 0)),(1,(.str [])),(1,(.con (.slice none 0 0))),(1,(.str []))]),oN (.st (.st 31) (.t 3) (.t 27)),oS 4 (.mv (.t 28))]) (.seq (.reg none [oS 29 (.mv (.t 4)),oS 30 (.mv (.t 29)),oG 31 (.fa 0 (.t 3)) 30,oG 32 (.ld (.arr 20) (.t 31)) 30,oG 33 (.buildA (List.replicate 20 (.int .u8 0)) []) 30,oG 34 (.eqA false 20 (.t 32) (.t 33)) 30,oS 35 (.pick (.t 30) (.t 34) (.c (.bool false))),oS 36 (.mv (.t 35)),oG 37 (.fa 20 (.t 3)) 36,oG 38 (.ld (.one (.con (.slice none 0 0))) (.t 37)) 36,oG 39 (.len none false (.t 38)) 36,oG 40 (.bin .eql (.t 39) (.c (.int .i64 0))) 36,oS 41 (.pick (.t 36) (.t 40) (.c (.bool false))),oS 42 (.mv (.t 41)),oG 43 (.fa 30 (.t 3)) 42,oG 44 (.ld (.one (.str [])) (.t 43)) 42,oG 45 (.bin .eql (.t 44) (.c (.str []))) 42,oS 46 (.pick (.t 42) (.t 45) (.c (.bool false)))]) (.cond (.t 46) (.seq (.reg none [oS 47 (.fa 25 (.t 1)),oS 48 (.ld (.one (.str [])) (.t 47)),oS 49 (.fa 30 (.t 3)),oN (.st (.one (.str [])) (.t 49) (.t 48))]) (.seq (.reg (some [(0,false),(1,false),(1,false),(3,true)]) [oS 50 (.ld (.st 31) (.t 3)),oS 51 (.call 16 [(.t 50)]),oS 52 (.ld (.st 26) (.t 1)),oS 53 (.call 14 [(.t 51),(.t 52)])]) (.cond (.t 53) (.seq (.reg none [oS 54 (.ld (.st 31) (.t 3)),oN (.st (.st 31) (.t 2) (.t 54))]) .ret) .skip))) .skip))) .skip)) k_rcom_3)))
def r_rcom:List ARes:=[(.c 2 (.st 31))]
theorem s_rcom:slimF Tryz.prog Tryz.f22=some (c_rcom,r_rcom):=by kernel_rfl
def b_rgkeyed_0:ACode:=(.seq (.seq (.reg none [oS 16 (.mv (.t 3)),oS 17 (.mv (.t 0)),oS 18 (.len none true (.t 17)),oS 19 (.bin .lss (.t 16) (.t 18))]) (.cond (.t 19) .skip (.exit 0))) (.seq (.block 1 (.seq (.reg none [oS 22 (.mv (.t 0)),oS 23 (.mv (.t 3)),oS 24 (.idxS (.t 22) (.t 23)),oS 4 (.mv (.t 24))]) (.seq (.reg none [oS 25 (.mv (.t 4)),oS 26 (.bin .geq (.t 25) (.c (.int .u8 97))),oS 27 (.mv (.t 26)),oG 28 (.mv (.t 4)) 27,oG 29 (.bin .leq (.t 28) (.c (.int .u8 122))) 27,oS 30 (.pick (.t 27) (.t 29) (.c (.bool false))),oS 31 (.mv (.t 4)),oS 32 (.bin .geq (.t 31) (.c (.int .u8 65))),oS 33 (.mv (.t 32)),oG 34 (.mv (.t 4)) 33,oG 35 (.bin .leq (.t 34) (.c (.int .u8 90))) 33,oS 36 (.pick (.t 33) (.t 35) (.c (.bool false))),oS 37 (.mv (.t 4)),oS 38 (.bin .geq (.t 37) (.c (.int .u8 48))),oS 39 (.mv (.t 38)),oG 40 (.mv (.t 4)) 39,oG 41 (.bin .leq (.t 40) (.c (.int .u8 57))) 39,oS 42 (.pick (.t 39) (.t 41) (.c (.bool false))),oS 5 (.mv (.t 30)),oS 6 (.mv (.t 36)),oS 7 (.mv (.t 42))]) (.seq (.reg none [oS 43 (.mv (.t 5)),oS 44 (.un .not (.t 43)),oS 45 (.mv (.t 44)),oG 46 (.mv (.t 6)) 45,oG 47 (.un .not (.t 46)) 45,oS 48 (.pick (.t 45) (.t 47) (.c (.bool false))),oS 49 (.mv (.t 48)),oG 50 (.mv (.t 7)) 49,oG 51 (.un .not (.t 50)) 49,oS 52 (.pick (.t 49) (.t 51) (.c (.bool false))),oS 53 (.mv (.t 52)),oG 54 (.mv (.t 4)) 53,oG 55 (.bin .neq (.t 54) (.c (.int .u8 45))) 53,oS 56 (.pick (.t 53) (.t 55) (.c (.bool false))),oS 57 (.mv (.t 56)),oG 58 (.mv (.t 4)) 57,oG 59 (.bin .neq (.t 58) (.c (.int .u8 95))) 57,oS 60 (.pick (.t 57) (.t 59) (.c (.bool false)))]) (.cond (.t 60) (.seq (.reg none [oS 2 (.mv (.c (.bool false)))]) .ret) .skip))))) (.reg none [oS 20 (.mv (.t 3)),oS 21 (.bin .add (.t 20) (.c (.int .i64 1))),oS 3 (.mv (.t 21))])))
def t_rgkeyed_0:ACode:=(.seq (.reg none [oS 2 (.mv (.c (.bool true)))]) .ret)
def c_rgkeyed:ACode:=(.seq (.reg none [oS 2 (.mv (.c (.bool false)))]) (.seq (.seq (.reg none [oS 8 (.mv (.t 0)),oS 9 (.len none true (.t 8)),oS 10 (.bin .lss (.t 9) (.c (.int .i64 1))),oS 11 (.mv (.t 10)),oH 12 (.mv (.t 0)) 11,oH 13 (.len none true (.t 12)) 11,oH 14 (.bin .gtr (.t 13) (.c (.int .i64 100))) 11,oS 15 (.pick (.t 11) (.c (.bool true)) (.t 14))]) (.cond (.t 15) (.seq (.reg none [oS 2 (.mv (.c (.bool false)))]) .ret) .skip)) (.seq (.seq (.reg none [oS 3 (.mv (.c (.int .i64 0)))]) (.block 0 (.loop b_rgkeyed_0))) t_rgkeyed_0)))
def r_rgkeyed:List ARes:=[(.t 2)]
theorem s_rgkeyed:slimF Tryz.prog Tryz.f38=some (c_rgkeyed,r_rgkeyed):=by kernel_rfl
def b_rgright_0:ACode:=(.seq (.seq (.reg none [oS 30 (.mv (.t 3)),oS 31 (.fa 20 (.t 1)),oS 32 (.ld (.one (.str [])) (.t 31)),oS 33 (.len none true (.t 32)),oS 34 (.bin .lss (.t 30) (.t 33))]) (.cond (.t 34) .skip (.exit 0))) (.seq (.block 1 (.seq (.reg none [oS 37 (.fa 20 (.t 1)),oS 38 (.ld (.one (.str [])) (.t 37)),oS 39 (.mv (.t 3)),oS 40 (.idxS (.t 38) (.t 39)),oS 41 (.bin .eql (.t 40) (.c (.int .u8 10)))]) (.cond (.t 41) (.seq (.reg none [oS 2 (.mv (.c (.bool false)))]) .ret) .skip))) (.reg none [oS 35 (.mv (.t 3)),oS 36 (.bin .add (.t 35) (.c (.int .i64 1))),oS 3 (.mv (.t 36))])))
def b_rgright_1:ACode:=(.seq (.seq (.reg none [oS 42 (.mv (.t 4)),oS 43 (.fa 23 (.t 1)),oS 44 (.ld (.one (.con (.slice none 0 0))) (.t 43)),oS 45 (.len none false (.t 44)),oS 46 (.bin .lss (.t 42) (.t 45))]) (.cond (.t 46) .skip (.exit 2))) (.seq (.block 3 (.seq (.reg (some [(0,false),(1,false),(2,false),(3,true),(4,true),(5,true),(6,true),(7,true),(8,true),(9,true),(10,true),(11,true),(12,false),(13,false),(14,false),(15,false),(16,false),(17,false),(18,false),(19,false),(20,false),(21,false),(22,false),(23,false),(24,false),(25,true),(26,true),(27,true)]) [oS 49 (.fa 23 (.t 1)),oS 50 (.ld (.one (.con (.slice none 0 0))) (.t 49)),oS 51 (.mv (.t 4)),oS 52 (.ia 2 (.agg [(1,(.str [])),(1,(.str []))]) (.t 50) (.t 51)),oS 53 (.fa 0 (.t 52)),oS 54 (.ld (.one (.str [])) (.t 53)),oS 55 (.call 38 [(.t 54)]),oS 56 (.un .not (.t 55)),oS 57 (.mv (.t 56)),oH 58 (.mv (.t 4)) 57,oH 59 (.bin .gtr (.t 58) (.c (.int .i64 0))) 57,oH 60 (.mv (.t 59)) 57,oG 61 (.fa 23 (.t 1)) 60,oG 62 (.ld (.one (.con (.slice none 0 0))) (.t 61)) 60,oG 63 (.mv (.t 4)) 60,oG 64 (.ia 2 (.agg [(1,(.str [])),(1,(.str []))]) (.t 62) (.t 63)) 60,oG 65 (.fa 0 (.t 64)) 60,oG 66 (.ld (.one (.str [])) (.t 65)) 60,oG 67 (.fa 23 (.t 1)) 60,oG 68 (.ld (.one (.con (.slice none 0 0))) (.t 67)) 60,oG 69 (.mv (.t 4)) 60,oG 70 (.bin .sub (.t 69) (.c (.int .i64 1))) 60,oG 71 (.ia 2 (.agg [(1,(.str [])),(1,(.str []))]) (.t 68) (.t 70)) 60,oG 72 (.fa 0 (.t 71)) 60,oG 73 (.ld (.one (.str [])) (.t 72)) 60,oG 74 (.bin .leq (.t 66) (.t 73)) 60,oH 75 (.pick (.t 60) (.t 74) (.c (.bool false))) 57,oS 76 (.pick (.t 57) (.c (.bool true)) (.t 75))]) (.cond (.t 76) (.seq (.reg none [oS 2 (.mv (.c (.bool false)))]) .ret) .skip))) (.reg none [oS 47 (.mv (.t 4)),oS 48 (.bin .add (.t 47) (.c (.int .i64 1))),oS 4 (.mv (.t 48))])))
def b_rgright_2:ACode:=(.seq (.seq (.reg none [oS 77 (.mv (.t 5)),oS 78 (.fa 24 (.t 1)),oS 79 (.ld (.one (.con (.slice none 0 0))) (.t 78)),oS 80 (.len none false (.t 79)),oS 81 (.bin .lss (.t 77) (.t 80))]) (.cond (.t 81) .skip (.exit 4))) (.seq (.block 5 (.seq (.reg (some [(0,false),(1,false),(2,false),(3,true),(4,true),(5,true),(6,true),(7,true),(8,true),(9,true),(10,true),(11,false),(12,false),(13,false),(14,false),(15,false),(16,false),(17,false),(18,false),(19,false),(20,false),(21,false),(22,true),(23,true),(24,true)]) [oS 84 (.fa 24 (.t 1)),oS 85 (.ld (.one (.con (.slice none 0 0))) (.t 84)),oS 86 (.mv (.t 5)),oS 87 (.ia 1 (.str []) (.t 85) (.t 86)),oS 88 (.ld (.one (.str [])) (.t 87)),oS 89 (.call 39 [(.t 88)]),oS 90 (.un .not (.t 89)),oS 91 (.mv (.t 90)),oH 92 (.mv (.t 5)) 91,oH 93 (.bin .gtr (.t 92) (.c (.int .i64 0))) 91,oH 94 (.mv (.t 93)) 91,oG 95 (.fa 24 (.t 1)) 94,oG 96 (.ld (.one (.con (.slice none 0 0))) (.t 95)) 94,oG 97 (.mv (.t 5)) 94,oG 98 (.ia 1 (.str []) (.t 96) (.t 97)) 94,oG 99 (.ld (.one (.str [])) (.t 98)) 94,oG 100 (.fa 24 (.t 1)) 94,oG 101 (.ld (.one (.con (.slice none 0 0))) (.t 100)) 94,oG 102 (.mv (.t 5)) 94,oG 103 (.bin .sub (.t 102) (.c (.int .i64 1))) 94,oG 104 (.ia 1 (.str []) (.t 101) (.t 103)) 94,oG 105 (.ld (.one (.str [])) (.t 104)) 94,oG 106 (.bin .leq (.t 99) (.t 105)) 94,oH 107 (.pick (.t 94) (.t 106) (.c (.bool false))) 91,oS 108 (.pick (.t 91) (.c (.bool true)) (.t 107))]) (.cond (.t 108) (.seq (.reg none [oS 2 (.mv (.c (.bool false)))]) .ret) .skip))) (.reg none [oS 82 (.mv (.t 5)),oS 83 (.bin .add (.t 82) (.c (.int .i64 1))),oS 5 (.mv (.t 83))])))
def t_rgright_0:ACode:=(.seq (.reg none [oS 2 (.mv (.c (.bool true)))]) .ret)
def t_rgright_1:ACode:=(.seq (.seq (.reg none [oS 5 (.mv (.c (.int .i64 0)))]) (.block 4 (.loop b_rgright_2))) t_rgright_0)
def t_rgright_2:ACode:=(.seq (.seq (.reg none [oS 4 (.mv (.c (.int .i64 0)))]) (.block 2 (.loop b_rgright_1))) t_rgright_1)
def c_rgright:ACode:=(.seq (.reg none [oS 1 (.box 49 26 (.t 0)),oS 2 (.mv (.c (.bool false)))]) (.seq (.seq (.reg none [oS 6 (.fa 20 (.t 1)),oS 7 (.ld (.one (.str [])) (.t 6)),oS 8 (.len none true (.t 7)),oS 9 (.bin .eql (.t 8) (.c (.int .i64 0))),oS 10 (.mv (.t 9)),oH 11 (.fa 21 (.t 1)) 10,oH 12 (.ld (.one (.int .i64 0)) (.t 11)) 10,oH 13 (.bin .lss (.t 12) (.c (.int .i64 0))) 10,oS 14 (.pick (.t 10) (.c (.bool true)) (.t 13)),oS 15 (.mv (.t 14)),oH 16 (.fa 21 (.t 1)) 15,oH 17 (.ld (.one (.int .i64 0)) (.t 16)) 15,oH 18 (.bin .geq (.t 17) (.c (.int .i64 4611686018427387904))) 15,oS 19 (.pick (.t 15) (.c (.bool true)) (.t 18)),oS 20 (.mv (.t 19)),oH 21 (.fa 22 (.t 1)) 20,oH 22 (.ld (.one (.int .i64 0)) (.t 21)) 20,oH 23 (.bin .lss (.t 22) (.c (.int .i64 (-86399)))) 20,oS 24 (.pick (.t 20) (.c (.bool true)) (.t 23)),oS 25 (.mv (.t 24)),oH 26 (.fa 22 (.t 1)) 25,oH 27 (.ld (.one (.int .i64 0)) (.t 26)) 25,oH 28 (.bin .gtr (.t 27) (.c (.int .i64 86399))) 25,oS 29 (.pick (.t 25) (.c (.bool true)) (.t 28))]) (.cond (.t 29) (.seq (.reg none [oS 2 (.mv (.c (.bool false)))]) .ret) .skip)) (.seq (.seq (.reg none [oS 3 (.mv (.c (.int .i64 0)))]) (.block 0 (.loop b_rgright_0))) t_rgright_2)))
def r_rgright:List ARes:=[(.t 2)]
theorem s_rgright:slimF Tryz.prog Tryz.f20=some (c_rgright,r_rgright):=by kernel_rfl
def b_rgsame_0:ACode:=(.seq (.seq (.reg none [oS 58 (.mv (.t 5)),oS 59 (.fa 23 (.t 2)),oS 60 (.ld (.one (.con (.slice none 0 0))) (.t 59)),oS 61 (.len none false (.t 60)),oS 62 (.bin .lss (.t 58) (.t 61))]) (.cond (.t 62) .skip (.exit 0))) (.seq (.block 1 (.seq (.reg (some [(0,false),(1,false),(2,false),(3,false),(4,false),(5,false),(6,false),(7,false),(8,false),(9,false),(10,true)]) [oS 65 (.fa 23 (.t 2)),oS 66 (.ld (.one (.con (.slice none 0 0))) (.t 65)),oS 67 (.mv (.t 5)),oS 68 (.ia 2 (.agg [(1,(.str [])),(1,(.str []))]) (.t 66) (.t 67)),oS 69 (.ld (.st 2) (.t 68)),oS 70 (.fa 23 (.t 3)),oS 71 (.ld (.one (.con (.slice none 0 0))) (.t 70)),oS 72 (.mv (.t 5)),oS 73 (.ia 2 (.agg [(1,(.str [])),(1,(.str []))]) (.t 71) (.t 72)),oS 74 (.ld (.st 2) (.t 73)),oS 75 (.eqS true [(0,((.one (.str [])),0)),(1,((.one (.str [])),0))] (.t 69) (.t 74))]) (.cond (.t 75) (.seq (.reg none [oS 4 (.mv (.c (.bool false)))]) .ret) .skip))) (.reg none [oS 63 (.mv (.t 5)),oS 64 (.bin .add (.t 63) (.c (.int .i64 1))),oS 5 (.mv (.t 64))])))
def b_rgsame_1:ACode:=(.seq (.seq (.reg none [oS 76 (.mv (.t 6)),oS 77 (.fa 24 (.t 2)),oS 78 (.ld (.one (.con (.slice none 0 0))) (.t 77)),oS 79 (.len none false (.t 78)),oS 80 (.bin .lss (.t 76) (.t 79))]) (.cond (.t 80) .skip (.exit 2))) (.seq (.block 3 (.seq (.reg (some [(0,false),(1,false),(2,false),(3,false),(4,false),(5,false),(6,false),(7,false),(8,false),(9,false),(10,true)]) [oS 83 (.fa 24 (.t 2)),oS 84 (.ld (.one (.con (.slice none 0 0))) (.t 83)),oS 85 (.mv (.t 6)),oS 86 (.ia 1 (.str []) (.t 84) (.t 85)),oS 87 (.ld (.one (.str [])) (.t 86)),oS 88 (.fa 24 (.t 3)),oS 89 (.ld (.one (.con (.slice none 0 0))) (.t 88)),oS 90 (.mv (.t 6)),oS 91 (.ia 1 (.str []) (.t 89) (.t 90)),oS 92 (.ld (.one (.str [])) (.t 91)),oS 93 (.bin .neq (.t 87) (.t 92))]) (.cond (.t 93) (.seq (.reg none [oS 4 (.mv (.c (.bool false)))]) .ret) .skip))) (.reg none [oS 81 (.mv (.t 6)),oS 82 (.bin .add (.t 81) (.c (.int .i64 1))),oS 6 (.mv (.t 82))])))
def t_rgsame_0:ACode:=(.seq (.reg none [oS 4 (.mv (.c (.bool true)))]) .ret)
def t_rgsame_1:ACode:=(.seq (.seq (.reg none [oS 6 (.mv (.c (.int .i64 0)))]) (.block 2 (.loop b_rgsame_1))) t_rgsame_0)
def c_rgsame:ACode:=(.seq (.reg none [oS 2 (.box 49 26 (.t 0)),oS 3 (.box 49 26 (.t 1)),oS 4 (.mv (.c (.bool false)))]) (.seq (.seq (.reg none [oS 7 (.fa 0 (.t 2)),oS 8 (.ld (.arr 20) (.t 7)),oS 9 (.fa 0 (.t 3)),oS 10 (.ld (.arr 20) (.t 9)),oS 11 (.eqA true 20 (.t 8) (.t 10)),oS 12 (.mv (.t 11)),oH 13 (.fa 20 (.t 2)) 12,oH 14 (.ld (.one (.str [])) (.t 13)) 12,oH 15 (.fa 20 (.t 3)) 12,oH 16 (.ld (.one (.str [])) (.t 15)) 12,oH 17 (.bin .neq (.t 14) (.t 16)) 12,oS 18 (.pick (.t 12) (.c (.bool true)) (.t 17)),oS 19 (.mv (.t 18)),oH 20 (.fa 21 (.t 2)) 19,oH 21 (.ld (.one (.int .i64 0)) (.t 20)) 19,oH 22 (.fa 21 (.t 3)) 19,oH 23 (.ld (.one (.int .i64 0)) (.t 22)) 19,oH 24 (.bin .neq (.t 21) (.t 23)) 19,oS 25 (.pick (.t 19) (.c (.bool true)) (.t 24)),oS 26 (.mv (.t 25)),oH 27 (.fa 22 (.t 2)) 26,oH 28 (.ld (.one (.int .i64 0)) (.t 27)) 26,oH 29 (.fa 22 (.t 3)) 26,oH 30 (.ld (.one (.int .i64 0)) (.t 29)) 26,oH 31 (.bin .neq (.t 28) (.t 30)) 26,oS 32 (.pick (.t 26) (.c (.bool true)) (.t 31)),oS 33 (.mv (.t 32)),oH 34 (.fa 25 (.t 2)) 33,oH 35 (.ld (.one (.str [])) (.t 34)) 33,oH 36 (.fa 25 (.t 3)) 33,oH 37 (.ld (.one (.str [])) (.t 36)) 33,oH 38 (.bin .neq (.t 35) (.t 37)) 33,oS 39 (.pick (.t 33) (.c (.bool true)) (.t 38)),oS 40 (.mv (.t 39)),oH 41 (.fa 23 (.t 2)) 40,oH 42 (.ld (.one (.con (.slice none 0 0))) (.t 41)) 40,oH 43 (.len none false (.t 42)) 40,oH 44 (.fa 23 (.t 3)) 40,oH 45 (.ld (.one (.con (.slice none 0 0))) (.t 44)) 40,oH 46 (.len none false (.t 45)) 40,oH 47 (.bin .neq (.t 43) (.t 46)) 40,oS 48 (.pick (.t 40) (.c (.bool true)) (.t 47)),oS 49 (.mv (.t 48)),oH 50 (.fa 24 (.t 2)) 49,oH 51 (.ld (.one (.con (.slice none 0 0))) (.t 50)) 49,oH 52 (.len none false (.t 51)) 49,oH 53 (.fa 24 (.t 3)) 49,oH 54 (.ld (.one (.con (.slice none 0 0))) (.t 53)) 49,oH 55 (.len none false (.t 54)) 49,oH 56 (.bin .neq (.t 52) (.t 55)) 49,oS 57 (.pick (.t 49) (.c (.bool true)) (.t 56))]) (.cond (.t 57) (.seq (.reg none [oS 4 (.mv (.c (.bool false)))]) .ret) .skip)) (.seq (.seq (.reg none [oS 5 (.mv (.c (.int .i64 0)))]) (.block 0 (.loop b_rgsame_0))) t_rgsame_1)))
def r_rgsame:List ARes:=[(.t 4)]
theorem s_rgsame:slimF Tryz.prog Tryz.f14=some (c_rgsame,r_rgsame):=by kernel_rfl
end Go.Proofs.YtgaehhechonegaaGreatDoor
