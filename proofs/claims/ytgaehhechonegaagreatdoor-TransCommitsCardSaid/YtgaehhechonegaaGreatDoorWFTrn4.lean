import Derived.Test.YtgaehhechonegaaGreatDoorWFLChg1
import Derived.Test.YtgaehhechonegaaGreatDoorWLComCode
import Derived.Test.YtgaehhechonegaaGreatDoorChecked
import Derived.Test.YtgaehhechonegaaGreatDoorWAMS
open Nat (reduceDiv reduceMod reduceSub reduceAdd reduceLeDiff reduceEqDiff)
set_option linter.all false
namespace Go.Proofs.YtgaehhechonegaaGreatDoor
open Go.RowKit
open Go.Lib (index hasPrefix trimPrefix cut indexAny itoa)
open Classical in
noncomputable def ofB (B:ChgL→ComL) (c:ComL):Bool:=match only1 c.extras with
 | some (k,v)=>decide (k=hgW∧spkB v c.message=true∧B (spkC v c.message)=c)
 | none=>false
open Classical in
noncomputable def bkB (O:ComL→ChgL) (x:ChgL):Bool:=match only1 x.extras with
 | some (k,v)=>decide (k=gitW∧parB11 v=true∧noTree (parC11 v)=true∧O (withM (parC11 v) x.desc)=x)
 | none=>false
noncomputable def of1:Nat→ComL→Bool
 | 0=>fun _=>false
 | n+1=>ofB (obF n).2
noncomputable def bk1:Nat→ChgL→Bool
 | 0=>fun _=>false
 | n+1=>bkB (obF n).1
theorem of1_s (n:Nat) (c:ComL):of1 (n+1) c=ofB (obF n).2 c:=rfl
theorem bk1_s (n:Nat) (x:ChgL):bk1 (n+1) x=bkB (obF n).1 x:=rfl
noncomputable def bkK (n:Nat) (x:ChgL):Nat:=if bk1 n x=true then 20 else 1
def comZ (kq:Nat) (c:ComL):AV:=.agg (comPs c.tree (.sl kq (c.parents.map idAV)) c.author c.committer (.sl 2 (c.extras.map exV)) c.message)
def ofPre (n:Nat) (c:ComL):Prop:=c.tree=zr20∧c.parents=[]∧rightC c=true∧szC c∧mz c.extras≤n
def bkPre (n:Nat) (x:ChgL):Prop:=x.man=zr20∧x.files=[]∧rightH x=true∧szH x∧mz x.extras≤n
noncomputable def tofS (n:Nat):Spec:=fun xs hp=>match xs,hp with
 | [.agg [(20,.blob t),(1,.sl kq ps),(1,.str an),(1,.str am),(1,.int .i64 at'),(1,.str az),(1,.str cn),(1,.str cm),(1,.int .i64 ct),(1,.str cz),(1,.sl ke es),(1,.str m)]],[] =>
  some ⟨chgZ ((obF n).1 ⟨unV t,ps.map unId,⟨an,am,at',az⟩,⟨cn,cm,ct,cz⟩,es.map unEx,m⟩),[],argC t kq ps ke es∧ofPre n ⟨unV t,ps.map unId,⟨an,am,at',az⟩,⟨cn,cm,ct,cz⟩,es.map unEx,m⟩⟩
 | _,_=>none
noncomputable def tbackS (n:Nat):Spec:=fun xs hp=>match xs,hp with
 | [.agg [(20,.blob m),(1,.str u),(1,.int .i64 t),(1,.int .i64 z),(1,.sl ke es),(1,.sl kf fs),(1,.str d)]],[] =>
  some ⟨comZ (bkK n ⟨unV m,u,t,z,es.map unEx,fs.map unS,d⟩) ((obF n).2 ⟨unV m,u,t,z,es.map unEx,fs.map unS,d⟩),[],argG m ke es kf fs∧bkPre n ⟨unV m,u,t,z,es.map unEx,fs.map unS,d⟩⟩
 | _,_=>none
noncomputable def tofP:Nat→Spec
 | 0=>fun _ _=>none
 | n+1=>tofS n
noncomputable def tbackP:Nat→Spec
 | 0=>fun _ _=>none
 | n+1=>tbackS n
noncomputable def tspkS:Spec:=fun xs hp=>match xs,hp with
 | [.str s,.str d],[]=>some ⟨.tup [chgZ (spkC s d),.bool (spkB s d)],[],s.length≤90000∧d.length≤90000⟩
 | _,_=>none
theorem tspk_ok:FnOk Tryz.prog 54 tspkS:=tspk0_ok.freezeD fun xs hp r' hs hp' => by
 unfold tspkS at hs
 split at hs
 ·injection hs with hs; subst hs
  refine ⟨rfl,_,rfl,hp',rfl,?_,rfl,rfl⟩
  simp [fzV,fzD,chgZ]
  exact ⟨rfl,rfl⟩
 ·cases hs
def tplainS:Spec:=fun xs hp=>match xs,hp with
 | [.agg [(20,.blob _),(1,.sl _ _),(1,.str an),(1,.str am),(1,.int .i64 at'),(1,.str az),(1,.str cn),(1,.str cm),(1,.int .i64 ct),(1,.str cz),(1,.sl ke es),(1,.str m)]],[] =>
  some ⟨chgZ (plainH ⟨zr20,[],⟨an,am,at',az⟩,⟨cn,cm,ct,cz⟩,es.map unEx,m⟩),[],es=(es.map unEx).map exV∧(ke=2∨es=[])∧rightC ⟨zr20,[],⟨an,am,at',az⟩,⟨cn,cm,ct,cz⟩,es.map unEx,m⟩=true∧szC ⟨zr20,[],⟨an,am,at',az⟩,⟨cn,cm,ct,cz⟩,es.map unEx,m⟩⟩
 | _,_=>none
theorem tplain_ok:FnOk Tryz.prog 56 tplainS:=tplain0_ok.freezeD fun xs hp r' hs hp' => by
 unfold tplainS at hs
 split at hs
 ·injection hs with hs; subst hs
  refine ⟨rfl,_,rfl,hp',rfl,?_,rfl,rfl⟩
  simp [fzV,fzD,chgZ,plainH]
 ·cases hs
theorem of_plain {n:Nat} {c:ComL} (h:of1 n c=false):(obF n).1 c=plainH c:=by
 cases n with
 | zero=>rfl
 | succ n =>
  rw [obF_of]; unfold ofStep; rw [of1_s] at h; unfold ofB at h
  cases ho:only1 c.extras with
  | none=>rfl
  | some y =>
   obtain ⟨k,v⟩:=y
   rw [ho] at h
   simp only at h ⊢
   simp only [decide_eq_false_iff_not] at h
   split
   ·rename_i hh; exact absurd hh h
   ·rfl
theorem of_told {n:Nat} {c:ComL} {k v:List UInt8} (ho:only1 c.extras=some (k,v)) (hh:k=hgW∧spkB v c.message=true∧(obF n).2 (spkC v c.message)=c):(obF (n+1)).1 c=spkC v c.message:=by
 rw [obF_of]; unfold ofStep; rw [ho]; simp only; rw [if_pos hh]
theorem of_not {n:Nat} {c:ComL} (h:∀ k v,only1 c.extras=some (k,v)→¬ (k=hgW∧spkB v c.message=true)):of1 n c=false:=by
 cases n with
 | zero=>rfl
 | succ n =>
  rw [of1_s]; unfold ofB
  cases ho:only1 c.extras with
  | none=>rfl
  | some y =>
   obtain ⟨k,v⟩:=y
   simp only [decide_eq_false_iff_not]
   exact fun hh=>h k v ho ⟨hh.1,hh.2.1⟩
theorem of_unlike {n:Nat} {c:ComL} {k v:List UInt8} (ho:only1 c.extras=some (k,v)) (hh:(obF n).2 (spkC v c.message)≠c):of1 (n+1) c=false:=by
 rw [of1_s]; unfold ofB; rw [ho]
 simp only [decide_eq_false_iff_not]
 exact fun h=>hh h.2.2
theorem unEx_ag (k v:List UInt8):unEx (.agg [(1,.str k),(1,.str v)])=(k,v):=rfl
theorem len1_only {es:List ExL} (h:es.length≠1):only1 es=none:=by
 match es,h with
 | [],_=>rfl
 | [_],h=>exact absurd rfl h
 | _ :: _ :: _,_=>rfl
theorem flat_ge_len:∀ es:List ExL,es.length≤(es.flatMap exL).length
 | []=>Nat.le_refl _
 | x :: es=>by
  have:=flat_ge_len es
  simp only [List.flatMap_cons,List.length_append,List.length_cons,exL,List.length_nil] at this ⊢; omega
theorem words_cnt {x:ChgL} (h:(wordsT x).length≤90000):x.extras.length≤90000∧mz x.extras≤90000:=by
 have h1:=flat_ge_len x.extras
 have h2:=mz_flat x.extras
 unfold wordsT at h
 simp only [List.length_append,List.length_cons] at h
 omega
theorem bkx_len (n:Nat) (x:ChgL):((obF n).2 x).extras.length≤1+mz x.extras:=by
 cases n with
 | zero=>exact Nat.le_add_right 1 _
 | succ n =>
  rw [obF_back]; unfold bkStep
  cases ho:only1 x.extras with
  | none=>exact Nat.le_add_right 1 _
  | some y =>
   obtain ⟨k,v⟩:=y
   simp only
   split
   ·rename_i hh
    have h1:=(par_cnt hh.2.1).2
    have h2:=mz_one ho
    simp only at h2
    show (parC11 v).extras.length≤_
    omega
   ·exact Nat.le_add_right 1 _
theorem ofx_len (n:Nat) {c:ComL} (hr:rightC c=true):((obF n).1 c).extras.length≤1+mz c.extras:=by
 cases n with
 | zero=>exact Nat.le_add_right 1 _
 | succ n =>
  rw [obF_of]; unfold ofStep
  cases ho:only1 c.extras with
  | none=>exact Nat.le_add_right 1 _
  | some y =>
   obtain ⟨k,v⟩:=y
   simp only
   split
   ·rename_i hh
    have h2:=mz_one ho
    have h3:=(spk_flags hh.2.1).2.1
    have h4:=flat_ge_len (spkC v c.message).extras
    have h5:=congrArg List.length h3
    unfold wordsT at h5
    simp only [List.length_append,List.length_cons] at h5 h2
    omega
   ·exact Nat.le_add_right 1 _
theorem bk_plain {n:Nat} {x:ChgL} (h:bk1 n x=false):(obF n).2 x=wrapC x:=by
 cases n with
 | zero=>rfl
 | succ n =>
  rw [obF_back]; unfold bkStep; rw [bk1_s] at h; unfold bkB at h
  cases ho:only1 x.extras with
  | none=>rfl
  | some y =>
   obtain ⟨k,v⟩:=y
   rw [ho] at h
   simp only at h ⊢
   simp only [decide_eq_false_iff_not] at h
   split
   ·rename_i hh; exact absurd hh h
   ·rfl
theorem bk_told {n:Nat} {x:ChgL} {k v:List UInt8} (ho:only1 x.extras=some (k,v)) (hh:k=gitW∧parB11 v=true∧noTree (parC11 v)=true∧(obF n).1 (withM (parC11 v) x.desc)=x) :
  (obF (n+1)).2 x=withM (parC11 v) x.desc∧bk1 (n+1) x=true:=by
 refine ⟨?_,?_⟩
 ·rw [obF_back]; unfold bkStep; rw [ho]; simp only; rw [if_pos hh]
 ·rw [bk1_s]; unfold bkB; rw [ho]; simp only [decide_eq_true_eq]; exact hh
theorem bk_not {n:Nat} {x:ChgL} (h:∀ k v,only1 x.extras=some (k,v)→¬ (k=gitW∧parB11 v=true∧noTree (parC11 v)=true)):bk1 n x=false:=by
 cases n with
 | zero=>rfl
 | succ n =>
  rw [bk1_s]; unfold bkB
  cases ho:only1 x.extras with
  | none=>rfl
  | some y =>
   obtain ⟨k,v⟩:=y
   simp only [decide_eq_false_iff_not]
   exact fun hh=>h k v ho ⟨hh.1,hh.2.1,hh.2.2.1⟩
theorem bk_unlike {n:Nat} {x:ChgL} {k v:List UInt8} (ho:only1 x.extras=some (k,v)) (hh:(obF n).1 (withM (parC11 v) x.desc)≠x):bk1 (n+1) x=false:=by
 rw [bk1_s]; unfold bkB; rw [ho]
 simp only [decide_eq_false_iff_not]
 exact fun h=>hh h.2.2.2
set_option maxHeartbeats 8000000 in
set_option maxRecDepth 8000 in
theorem tof_step (n:Nat) (hB:FnOk Tryz.prog 37 (tbackP n)):FnOk Tryz.prog 30 (tofS n):=by
 have hΦ:PhiOk Tryz.prog (phiL [(54,[],tspkS),(37,[],tbackP n),(55,[],tsamCS),(56,[],tplainS)]) :=
  phi_cons tspk_ok (by kernel_rfl) (phi_cons hB (by kernel_rfl) (phi_cons tsamC_ok (by kernel_rfl) (phi_cons tplain_ok (by kernel_rfl) phi_nil)))
 have P1:phiL [(54,[],tspkS),(37,[],tbackP n),(55,[],tsamCS),(56,[],tplainS)] 54=some ([],tspkS):=rfl
 have P2:phiL [(54,[],tspkS),(37,[],tbackP n),(55,[],tsamCS),(56,[],tplainS)] 37=some ([],tbackP n):=rfl
 have P3:phiL [(54,[],tspkS),(37,[],tbackP n),(55,[],tsamCS),(56,[],tplainS)] 55=some ([],tsamCS):=rfl
 have P4:phiL [(54,[],tspkS),(37,[],tbackP n),(55,[],tsamCS),(56,[],tplainS)] 56=some ([],tplainS):=rfl
 generalize phiL [(54,[],tspkS),(37,[],tbackP n),(55,[],tsamCS),(56,[],tplainS)]=Φ at hΦ P1 P2 P3 P4
 refine fn_slim2 Tryz.func30 s_tof hΦ ?_
 intro xs hp r hs hp'
 unfold tofS at hs
 split at hs
 ·rename_i t kq ps an am at' az cn cm ct cz ke es m
  injection hs with hs; subst hs
  obtain ⟨⟨q1,q2,q3,q4,q5⟩,r1,r2,r3,r4,r5⟩:=hp'
  generalize unV t=t at *
  subst q1
  generalize ps.map unId=ps at *
  subst q2
  generalize es.map unEx=es at *
  subst q3
  simp only at r1 r2 r5
  subst r1 r2
  refine ⟨len_le (by kernel_rfl),?_⟩
  have hsz:=szC_ok r3 r4
  have hel:es.length≤1000000:=hsz.2.2.2.2.1
  obtain ⟨r6,r7⟩:=id r4
  simp only at r7
  by_cases h1:es.length=1
  rotate_left
  ·have d1:decide ((es.length:Int)=1)=false:=decide_eq_false (by omega)
   have hn:of1 n ⟨zr20,[],⟨an,am,at',az⟩,⟨cn,cm,ct,cz⟩,es,m⟩=false:=of_not fun k v ho=>by rw [len1_only h1] at ho; cases ho
   rw [of_plain hn]
   simp only [c_tof,r_tof,d1,P4,tplainS,unEx_map,chgZ,plainH,exV,gitW,List.length_map,go_sem,reduceDiv,reduceMod,↓reduceIte,reduceSub,reduceAdd,reduceLeDiff,reduceCtorEq]
   (repeat' apply And.intro); all_goals first | omega | rfl | trivial | exact q5 | exact r3 | exact r4.1 | exact r4.2 | exact .inl trivial | exact .inr trivial | skip
  obtain ⟨⟨k,v⟩,rfl⟩:∃ x,es=[x]:=by
   match es,h1 with
   | [x],_=>exact ⟨x,rfl⟩
  have hk:ke=2:=q5.resolve_right (by intro h; cases h)
  subst hk
  have hvl:v.length≤90000:=by
   have h2:=mz_flat [(k,v)]
   have h3:mz [(k,v)]=v.length:=by simp [mz]
   have h4:=congrArg List.length (bodyC_shape (noM ⟨zr20,[],⟨an,am,at',az⟩,⟨cn,cm,ct,cz⟩,[(k,v)],m⟩))
   simp only [List.length_append,List.length_cons,noM] at h4 r6
   omega
  cases h2:decide (k=[104,103]) with
  | false =>
   have hn:of1 n ⟨zr20,[],⟨an,am,at',az⟩,⟨cn,cm,ct,cz⟩,[(k,v)],m⟩=false:=of_not fun k' v' ho=>by
    simp only [only1,Option.some.injEq,Prod.mk.injEq] at ho
    obtain ⟨rfl,rfl⟩:=ho
    exact fun hh=>of_decide_eq_false h2 hh.1
   rw [of_plain hn]
   simp only [c_tof,r_tof,h2,P4,tplainS,unEx_ag,chgZ,plainH,exV,gitW,List.map_cons,go_sem,reduceDiv,reduceMod,↓reduceIte,reduceSub,reduceAdd,reduceLeDiff,reduceCtorEq,Int.reduceLT,Int.reduceLE,Int.reduceToNat]
   (repeat' apply And.intro); all_goals first | omega | rfl | trivial | exact q5 | exact r3 | exact r4.1 | exact r4.2 | exact .inl trivial | exact .inr trivial | skip
  | true =>
   have hkk:k=hgW:=of_decide_eq_true h2
   subst hkk
   cases h3:spkB v m with
   | false =>
    have hn:of1 n ⟨zr20,[],⟨an,am,at',az⟩,⟨cn,cm,ct,cz⟩,[(hgW,v)],m⟩=false:=of_not fun k' v' ho=>by
     simp only [only1,Option.some.injEq,Prod.mk.injEq] at ho
     obtain ⟨rfl,rfl⟩:=ho
     intro hh
     have:=hh.2
     simp only at this
     rw [h3] at this; cases this
    rw [of_plain hn]
    simp only [c_tof,r_tof,h2,h3,P1,P4,tspkS,tplainS,unEx_ag,chgZ,plainH,exV,gitW,List.map_cons,go_sem,reduceDiv,reduceMod,↓reduceIte,reduceSub,Nat.reduceLT,reduceAdd,reduceLeDiff,reduceCtorEq,Int.reduceLT,Int.reduceLE,Int.reduceToNat]
    (repeat' apply And.intro); all_goals first | omega | rfl | trivial | exact q5 | exact r3 | exact r4.1 | exact r4.2 | exact .inl trivial | exact .inr trivial | skip
   | true =>
    have hmz:=spk_mz h3
    have hr5:v.length≤n:=by simpa [mz] using r5
    obtain ⟨n,rfl⟩:∃ j,n=j+1:=⟨n - 1,by omega⟩
    obtain ⟨f1,f2,-⟩:=spk_flags h3
    have hbr:=back_right n f1
    have hho:only1 [(hgW,v)]=some (hgW,v):=rfl
    have hbp:bkPre n (spkC v m):=⟨rfl,rfl,f1,⟨by rw [f2]; exact hvl,r7⟩,by omega⟩
    have htold:=of_told (n:=n) (c:=⟨zr20,[],⟨an,am,at',az⟩,⟨cn,cm,ct,cz⟩,[(hgW,v)],m⟩) hho
    have hunl:=of_unlike (n:=n) (c:=⟨zr20,[],⟨an,am,at',az⟩,⟨cn,cm,ct,cz⟩,[(hgW,v)],m⟩) hho
    simp only at htold hunl
    obtain ⟨xu,xt,xz,xe,hx⟩:∃ xu xt xz xe,spkC v m=⟨zr20,xu,xt,xz,xe,[],m⟩:=⟨_,_,_,_,rfl⟩
    rw [hx] at hbr hbp htold hunl
    obtain ⟨b,hb⟩:∃ b,(obF n).2 ⟨zr20,xu,xt,xz,xe,[],m⟩=b:=⟨_,rfl⟩
    rw [hb] at hbr htold hunl
    obtain ⟨bt,bp,⟨ban,bam,bat,baz⟩,⟨bcn,bcm,bct,bcz⟩,be,bm⟩:=b
    obtain ⟨-,hb1,hb2⟩:=hbr
    simp only at hb1 hb2
    subst hb1 hb2
    have hbpT:=eq_true hbp
    have hbel:be.length≤1000000∧xe.length≤1000000:=by
     have h1:=bkx_len n ⟨zr20,xu,xt,xz,xe,[],m⟩
     have h2:=words_cnt hbp.2.2.2.1.1
     rw [hb] at h1
     simp only at h1 h2
     omega
    have hsac:sacB ⟨[],[],⟨ban,bam,bat,baz⟩,⟨bcn,bcm,bct,bcz⟩,be,bm⟩ ⟨[],[],⟨an,am,at',az⟩,⟨cn,cm,ct,cz⟩,[(hgW,v)],m⟩=true↔_ :=
     sacB_eq (c:=⟨zr20,[],⟨ban,bam,bat,baz⟩,⟨bcn,bcm,bct,bcz⟩,be,bm⟩) (d:=⟨zr20,[],⟨an,am,at',az⟩,⟨cn,cm,ct,cz⟩,[(hgW,v)],m⟩) rfl rfl
    cases h4:sacB ⟨[],[],⟨ban,bam,bat,baz⟩,⟨bcn,bcm,bct,bcz⟩,be,bm⟩ ⟨[],[],⟨an,am,at',az⟩,⟨cn,cm,ct,cz⟩,[(hgW,v)],m⟩ with
    | false =>
     have hn:=hunl fun e=>by rw [hsac.2 e] at h4; cases h4
     rw [of_plain hn]
     simp only [c_tof,r_tof,h2,h3,h4,hx,hb,hbpT,P1,P2,P3,P4,tspkS,tbackP,tbackS,tsamCS,comZ,comPs,argG,tplainS,unV_U,unEx_map,unEx_ag,chgZ,plainH,exV,gitW,List.length_map,List.map_nil,List.map_cons,go_sem,reduceDiv,reduceMod,↓reduceIte,reduceSub,Nat.reduceLT,reduceAdd,reduceLeDiff,reduceCtorEq,Int.reduceLT,Int.reduceLE,Int.reduceToNat]
     (repeat' apply And.intro); all_goals first | omega | rfl | trivial | exact q5 | exact r3 | exact r4.1 | exact r4.2 | exact .inl trivial | exact .inr trivial | skip
    | true =>
     have hn:=htold ⟨trivial,h3,hsac.1 h4⟩
     rw [hn]
     simp only [c_tof,r_tof,h2,h3,h4,hx,hb,hbpT,P1,P2,P3,tspkS,tbackP,tbackS,tsamCS,comZ,comPs,argG,unV_U,unEx_map,unEx_ag,chgZ,exV,List.length_map,List.map_nil,List.map_cons,go_sem,reduceDiv,reduceMod,↓reduceIte,reduceSub,Nat.reduceLT,reduceAdd,reduceLeDiff,reduceCtorEq,Int.reduceLT,Int.reduceLE,Int.reduceToNat]
     (repeat' apply And.intro); all_goals first | omega | rfl | trivial | exact q5 | exact r3 | exact r4.1 | exact r4.2 | exact .inl trivial | exact .inr trivial | skip
 ·cases hs
noncomputable def bkR (n:Nat) (x:ChgL) (pr:Prop):Option Ret:=if bk1 n x=true then
  some ⟨.agg (comPs zr20 (.own 0 0) ((obF n).2 x).author ((obF n).2 x).committer (.own 1 ((obF n).2 x).extras.length) ((obF n).2 x).message),[.froz 20 0 [],.froz 2 ((obF n).2 x).extras.length (((obF n).2 x).extras.map exV)],pr⟩
 else some ⟨.agg (comPs zr20 (.con (.slice none 0 0)) (hgWho x.time) (hgWho x.time) (.own 0 0) x.desc),[.row 69 2 0 [exV (hgW,wordsT x)]],pr⟩
noncomputable def tbackS0 (n:Nat):Spec:=fun xs hp=>match xs,hp with
 | [.agg [(20,.blob m),(1,.str u),(1,.int .i64 t),(1,.int .i64 z),(1,.sl ke es),(1,.sl kf fs),(1,.str d)]],[] =>
  bkR n ⟨unV m,u,t,z,es.map unEx,fs.map unS,d⟩ (argG m ke es kf fs∧bkPre n ⟨unV m,u,t,z,es.map unEx,fs.map unS,d⟩)
 | _,_=>none
theorem bkR_pre {n:Nat} {x:ChgL} {pr:Prop} {r:Ret} (h:bkR n x pr=some r) (hr:r.pre):pr:=by
 unfold bkR at h
 split at h <;> (injection h with h; subst h; exact hr)
theorem bkR_f {n:Nat} {x:ChgL} (h:bk1 n x=false) (pr:Prop):bkR n x pr=some ⟨.agg (comPs zr20 (.con (.slice none 0 0)) (hgWho x.time) (hgWho x.time) (.own 0 0) x.desc),[.row 69 2 0 [exV (hgW,wordsT x)]],pr⟩:=by
 unfold bkR; rw [h]; rfl
set_option maxHeartbeats 8000000 in
set_option maxRecDepth 8000 in
theorem tback_step0 (n:Nat) (hB:FnOk Tryz.prog 30 (tofP n)):FnOk Tryz.prog 37 (tbackS0 n):=by
 have hΦ:PhiOk Tryz.prog (phiL [(65,[],cparS),(30,[],tofP n),(66,[],tsamHS),(67,[],twordsS)]) :=
  phi_cons cpar_ok (by kernel_rfl) (phi_cons hB (by kernel_rfl) (phi_cons tsamH_ok (by kernel_rfl) (phi_cons twords_ok (by kernel_rfl) phi_nil)))
 have P1:phiL [(65,[],cparS),(30,[],tofP n),(66,[],tsamHS),(67,[],twordsS)] 65=some ([],cparS):=rfl
 have P2:phiL [(65,[],cparS),(30,[],tofP n),(66,[],tsamHS),(67,[],twordsS)] 30=some ([],tofP n):=rfl
 have P3:phiL [(65,[],cparS),(30,[],tofP n),(66,[],tsamHS),(67,[],twordsS)] 66=some ([],tsamHS):=rfl
 have P4:phiL [(65,[],cparS),(30,[],tofP n),(66,[],tsamHS),(67,[],twordsS)] 67=some ([],twordsS):=rfl
 generalize phiL [(65,[],cparS),(30,[],tofP n),(66,[],tsamHS),(67,[],twordsS)]=Φ at hΦ P1 P2 P3 P4
 refine fn_slimZ Tryz.func37 s_tback hΦ ?_
 intro xs hp r hs hp'
 unfold tbackS0 at hs
 split at hs
 ·rename_i ma u t z ke es kf fs d
  obtain ⟨⟨q1,q2,q3,q4,q5⟩,r1,r2,r3,r4,r5⟩:=bkR_pre hs hp'
  generalize unV ma=ma at *
  subst q1
  generalize es.map unEx=es at *
  subst q2
  generalize fs.map unS=fs at *
  subst q3 q5
  simp only at r1 r2 r5
  subst r1 r2
  refine ⟨len_le (by kernel_rfl),?_⟩
  obtain ⟨hel,-⟩:=words_cnt r4.1
  simp only at hel
  obtain ⟨r6,r7⟩:=id r4
  simp only at r7
  have hrt:=(rightH_of r3).time
  have hrz:=(rightH_of r3).zone
  simp only at hrt hrz
  have hit:inI t:=by unfold inI; omega
  have hiz:inI z:=by unfold inI; omega
  have hzu:unV (List.replicate 20 (Value.int .u8 0))=zr20:=rfl
  have hwr:wordsT ⟨[],u,t,z,es,[],[]⟩=wordsT ⟨zr20,u,t,z,es,[],d⟩:=rfl
  have hwo:wordsOk ⟨[],u,t,z,es,[],[]⟩:=⟨by rw [hwr]; omega,hit,hiz⟩
  have hwoT:=eq_true hwo
  by_cases h1:es.length=1
  rotate_left
  ·have d1:decide ((es.length:Int)=1)=false:=decide_eq_false (by omega)
   have hn:bk1 n ⟨zr20,u,t,z,es,[],d⟩=false:=bk_not fun k v ho=>by simp only at ho; rw [len1_only h1] at ho; cases ho
   rw [bkR_f hn] at hs
   injection hs with hs; subst hs
   refine .fin ?_
   simp only [c_tback,d1,r_tback,twordsS,hwoT,hwr,unEx_map,exV,hgW,hgWho,comPs,P4,List.length_map,go_sem,reduceDiv,reduceMod,↓reduceIte,reduceSub,Nat.reduceLT,reduceAdd,reduceLeDiff,reduceCtorEq]
   (repeat' apply And.intro); all_goals first | omega | rfl | trivial | exact q4 | exact .inl trivial | exact .inr trivial | (first | omega | (simp only [lenOk,bytesOk,inI,IntKind.bits,List.length_append,Bs_len,List.length_cons,List.length_nil,List.length_map,List.length_take,List.length_drop,List.length_replicate]; omega)) | skip
  obtain ⟨⟨k,v⟩,rfl⟩:∃ x,es=[x]:=by
   match es,h1 with
   | [x],_=>exact ⟨x,rfl⟩
  have hk:ke=2:=q4.resolve_right (by intro h; cases h)
  subst hk
  have hvl:v.length≤90000:=by
   have h2:=(words_cnt r4.1).2
   have h3:mz [(k,v)]=v.length:=by simp [mz]
   simp only at h2; omega
  cases h2:decide (k=[103,105,116]) with
  | false =>
   have hn:bk1 n ⟨zr20,u,t,z,[(k,v)],[],d⟩=false:=bk_not fun k' v' ho=>by
    simp only [only1,Option.some.injEq,Prod.mk.injEq] at ho
    obtain ⟨rfl,rfl⟩:=ho
    exact fun hh=>of_decide_eq_false h2 hh.1
   rw [bkR_f hn] at hs
   injection hs with hs; subst hs
   refine .fin ?_
   simp only [c_tback,h2,r_tback,twordsS,hwoT,hwr,unEx_ag,exV,hgW,hgWho,comPs,P4,List.map_cons,go_sem,reduceDiv,reduceMod,↓reduceIte,reduceSub,Nat.reduceLT,reduceAdd,reduceLeDiff,reduceCtorEq,Int.reduceLT,Int.reduceLE,Int.reduceToNat]
   (repeat' apply And.intro); all_goals first | omega | rfl | trivial | exact q4 | exact .inl trivial | exact .inr trivial | (first | omega | (simp only [lenOk,bytesOk,inI,IntKind.bits,List.length_append,Bs_len,List.length_cons,List.length_nil,List.length_map,List.length_take,List.length_drop,List.length_replicate]; omega)) | skip
  | true =>
   have hkk:k=gitW:=of_decide_eq_true h2
   subst hkk
   cases h3:parB11 v with
   | false =>
    have hn:bk1 n ⟨zr20,u,t,z,[(gitW,v)],[],d⟩=false:=bk_not fun k' v' ho=>by
     simp only [only1,Option.some.injEq,Prod.mk.injEq] at ho
     obtain ⟨rfl,rfl⟩:=ho
     intro hh
     rw [h3] at hh; cases hh.2.1
    have e1:=parR11_f h3
    rw [bkR_f hn] at hs
    injection hs with hs; subst hs
    refine .fin ?_
    simp only [c_tback,h2,P1,cparS,unB_Bs,e1,r_tback,twordsS,hwoT,hwr,unEx_ag,exV,hgW,hgWho,comPs,com0,who0,P4,List.map_cons,go_sem,reduceDiv,reduceMod,↓reduceIte,reduceSub,Nat.reduceLT,reduceAdd,reduceLeDiff,reduceCtorEq,Int.reduceEq,Int.reduceLT,Int.reduceLE,Int.reduceToNat]
    (repeat' apply And.intro); all_goals first | omega | rfl | trivial | exact q4 | exact .inl trivial | exact .inr trivial | (first | omega | (simp only [lenOk]; omega)) | skip
   | true =>
    obtain ⟨p20,pp20⟩:=parC11_len v
    obtain ⟨c,hc⟩:∃ c,parC11 v=c:=⟨_,rfl⟩
    have e1:=parR11_t h3 hc
    obtain ⟨n1,n2⟩:=par_cnt h3
    have hnt:noTree (parC11 v)=(decide (c.tree=zr20) && decide (c.parents=[]) && decide (c.message=[])):=by rw [hc]; rfl
    rw [hc] at p20 n1 n2
    obtain ⟨ct,cp,⟨can,cam,cat,caz⟩,⟨ccn,ccm,cct,ccz⟩,ce,cm⟩:=c
    simp only at p20 n1 n2 e1 hnt
    have hnot:noTree (parC11 v)=false→bk1 n ⟨zr20,u,t,z,[(gitW,v)],[],d⟩=false:=fun h=>bk_not fun k' v' ho=>by
     simp only [only1,Option.some.injEq,Prod.mk.injEq] at ho
     obtain ⟨rfl,rfl⟩:=ho
     intro hh
     rw [h] at hh; cases hh.2.2
    cases g1:decide (ct=zr20) with
    | false =>
     rw [g1,Bool.false_and,Bool.false_and] at hnt
     rw [bkR_f (hnot hnt)] at hs
     injection hs with hs; subst hs
     refine .fin ?_
     simp only [c_tback,h2,P1,cparS,unB_Bs,e1,unV_U,hzu,g1,r_tback,twordsS,hwoT,hwr,unEx_ag,exV,hgW,hgWho,comPs,P4,List.map_cons,↓flat_id,↓flat_exs,go_sem,reduceDiv,reduceMod,↓reduceIte,reduceSub,Nat.reduceLT,reduceAdd,reduceLeDiff,reduceCtorEq,Int.reduceLT,Int.reduceLE,Int.reduceToNat]
     (repeat' apply And.intro); all_goals first | omega | rfl | trivial | exact q4 | exact .inl trivial | exact .inr trivial | (first | omega | (simp only [lenOk]; omega)) | skip
    | true =>
    by_cases g2:cp=[]
    rotate_left
    ·have d2:decide ((cp.length:Int)=0)=false:=decide_eq_false fun h=>g2 (List.length_eq_zero_iff.1 (by omega))
     rw [decide_eq_false g2,Bool.and_false,Bool.false_and] at hnt
     rw [bkR_f (hnot hnt)] at hs
     injection hs with hs; subst hs
     refine .fin ?_
     simp only [c_tback,h2,P1,cparS,unB_Bs,e1,unV_U,hzu,g1,d2,r_tback,twordsS,hwoT,hwr,unEx_ag,exV,hgW,hgWho,comPs,P4,List.length_map,List.map_cons,↓flat_id,↓flat_exs,go_sem,reduceDiv,reduceMod,↓reduceIte,reduceSub,Nat.reduceLT,reduceAdd,reduceLeDiff,reduceCtorEq,Int.reduceLT,Int.reduceLE,Int.reduceToNat]
     (repeat' apply And.intro); all_goals first | omega | rfl | trivial | exact q4 | exact .inl trivial | exact .inr trivial | (first | omega | (simp only [lenOk]; omega)) | skip
    subst g2
    cases g3:decide (cm=[]) with
    | false =>
     rw [g3,Bool.and_false] at hnt
     rw [bkR_f (hnot hnt)] at hs
     injection hs with hs; subst hs
     refine .fin ?_
     simp only [c_tback,h2,P1,cparS,unB_Bs,e1,unV_U,hzu,g1,g3,r_tback,twordsS,hwoT,hwr,unEx_ag,exV,hgW,hgWho,comPs,P4,List.map_cons,↓flat_exs,go_sem,reduceDiv,reduceMod,↓reduceIte,reduceSub,Nat.reduceLT,reduceAdd,reduceLeDiff,reduceCtorEq,Int.reduceLT,Int.reduceLE,Int.reduceToNat]
     (repeat' apply And.intro); all_goals first | omega | rfl | trivial | exact q4 | exact .inl trivial | exact .inr trivial | (first | omega | (simp only [lenOk]; omega)) | skip
    | true =>
    have g1' := of_decide_eq_true g1
    have g3' := of_decide_eq_true g3
    subst g1' g3'
    have hr5:v.length≤n:=by simpa [mz] using r5
    have hmz:=par_mz h3
    obtain ⟨n,rfl⟩:∃ j,n=j+1:=⟨n - 1,by omega⟩
    have hho:only1 [(gitW,v)]=some (gitW,v):=rfl
    have hrc:=(body_com h3).1
    have hbc:=(body_com h3).2
    have htold:=bk_told (n:=n) (x:=⟨zr20,u,t,z,[(gitW,v)],[],d⟩) hho
    have hunl:=bk_unlike (n:=n) (x:=⟨zr20,u,t,z,[(gitW,v)],[],d⟩) hho
    rw [hc] at hrc hbc hmz htold hunl
    have hop:ofPre n ⟨zr20,[],⟨can,cam,cat,caz⟩,⟨ccn,ccm,cct,ccz⟩,ce,d⟩:=⟨rfl,rfl,hrc,⟨by
     show (bodyC ⟨zr20,[],⟨can,cam,cat,caz⟩,⟨ccn,ccm,cct,ccz⟩,ce,[]⟩).length≤90000
     rw [hbc]; exact hvl,r7⟩,by simp only at hmz ⊢; omega⟩
    have hofr:=of_right n hop.2.2.1
    have hofl:=ofx_len n hop.2.2.1
    simp only [withM] at htold hunl
    obtain ⟨o,ho⟩:∃ o,(obF n).1 ⟨zr20,[],⟨can,cam,cat,caz⟩,⟨ccn,ccm,cct,ccz⟩,ce,d⟩=o:=⟨_,rfl⟩
    rw [ho] at hofr hofl htold hunl
    obtain ⟨om,ou,ot,oz,oe,ofl,od⟩:=o
    obtain ⟨-,ho1,ho2⟩:=hofr
    simp only at ho1 ho2 hofl hmz
    subst ho1 ho2
    have hopT:=eq_true hop
    have hsah:sahB ⟨[],ou,ot,oz,oe,[],od⟩ ⟨[],u,t,z,[(gitW,v)],[],d⟩=true↔_ :=
     sahB_eq (c:=⟨zr20,ou,ot,oz,oe,[],od⟩) (d:=⟨zr20,u,t,z,[(gitW,v)],[],d⟩) rfl rfl
    unfold c_tback
    refine .step ?_
    simp only [go_sem,reduceDiv,reduceMod,↓reduceIte,reduceAdd]
    refine .sub (.step ?_)
    simp only [h2,exV,go_sem,reduceDiv,reduceMod,↓reduceIte,reduceSub,reduceAdd,reduceLeDiff,reduceCtorEq,Int.reduceLT,Int.reduceLE,Int.reduceToNat]
    refine .cond true rfl (fun _=>?_) (fun h=>by cases h)
    refine .step ?_
    simp only [P1,cparS,unB_Bs,e1,comPs,↓flat_exs,List.length_nil,go_sem,reduceDiv,reduceMod,↓reduceIte,reduceSub,Nat.reduceLT,reduceAdd,reduceLeDiff,reduceCtorEq,Int.reduceLT,Int.reduceLE,Int.reduceToNat]
    (repeat' apply And.intro)
    all_goals first | omega | (first | omega | (simp only [lenOk]; omega)) | exact flx_of ce exV (fun _=>rfl) | exact flat_B _ | (intro x hx; cases hx; done) | skip
    refine .frz [3,4] _ rfl ?_
    cases h4:sahB ⟨[],ou,ot,oz,oe,[],od⟩ ⟨[],u,t,z,[(gitW,v)],[],d⟩ with
    | true =>
     obtain ⟨ht1,ht2⟩:=htold ⟨trivial,h3,noTree_iff.2 ⟨rfl,rfl,rfl⟩,hsah.1 h4⟩
     unfold bkR at hs
     rw [if_pos ht2,ht1] at hs
     injection hs with hs; subst hs
     refine .fin ?_
     simp only [h4,P2,P3,tofP,tofS,tsamHS,argC,hopT,ho,chgZ,unV_U,unEx_map,unEx_ag,hzu,List.length_map,List.length_nil,List.map_nil,List.map_cons,exV,and_self,Nat.lt_add_one,Nat.zero_lt_succ,r_tback,unEx_map,unEx_ag,exV,comPs,List.length_map,List.map_nil,go_sem,reduceDiv,reduceMod,↓reduceIte,reduceEqDiff,Nat.reduceBEq,reduceSub,reduceAdd,reduceLeDiff,reduceCtorEq]
     (repeat' apply And.intro); all_goals first | omega | rfl | trivial | exact q4 | exact .inl trivial | exact .inr trivial | (first | omega | (simp only [lenOk,bytesOk,inI,IntKind.bits,List.length_append,Bs_len,List.length_cons,List.length_nil,List.length_map,List.length_take,List.length_drop,List.length_replicate]; omega)) | skip
    | false =>
     have hn:=hunl fun e=>by rw [hsah.2 e] at h4; cases h4
     rw [bkR_f hn] at hs
     injection hs with hs; subst hs
     refine .fin ?_
     simp only [h4,P2,P3,tofP,tofS,tsamHS,argC,hopT,ho,chgZ,unV_U,unEx_map,unEx_ag,hzu,List.length_map,List.length_nil,List.map_nil,List.map_cons,exV,and_self,Nat.lt_add_one,Nat.zero_lt_succ,r_tback,unEx_map,unEx_ag,exV,hgW,hgWho,comPs,List.length_map,List.map_nil,go_sem,reduceDiv,reduceMod,↓reduceIte,reduceSub,reduceAdd,reduceLeDiff,reduceCtorEq]
     refine ⟨⟨rfl,rfl⟩,⟨.inl trivial,.inl trivial⟩,⟨.inl trivial,.inl trivial,by omega⟩,?_⟩
     refine .fin ?_
     simp only [twordsS,hwoT,hwr,unEx_ag,exV,P4,go_sem,reduceDiv,reduceMod,↓reduceIte,reduceSub,Nat.reduceLT,reduceAdd,reduceLeDiff,reduceCtorEq]
     (repeat' apply And.intro); all_goals first | omega | rfl | trivial | exact q4 | exact .inl trivial | exact .inr trivial | (first | omega | (simp only [lenOk,bytesOk,inI,IntKind.bits,List.length_append,Bs_len,List.length_cons,List.length_nil,List.length_map,List.length_take,List.length_drop,List.length_replicate]; omega)) | skip
 ·cases hs
theorem tback_step (n:Nat) (hB:FnOk Tryz.prog 30 (tofP n)):FnOk Tryz.prog 37 (tbackS n):=(tback_step0 n hB).freezeD fun xs hp r' hs hp' => by
 unfold tbackS at hs
 split at hs
 ·rename_i ma u t z ke es kf fs d
  injection hs with hs; subst hs
  have hpr:argG ma ke es kf fs∧bkPre n ⟨unV ma,u,t,z,es.map unEx,fs.map unS,d⟩:=hp'
  obtain ⟨-,-,-,r3,-⟩:=id hpr
  have hbr:=back_right n r3
  cases hb:bk1 n ⟨unV ma,u,t,z,es.map unEx,fs.map unS,d⟩ with
  | true =>
   refine ⟨rfl,_,by show bkR n _ _=_; unfold bkR; rw [if_pos hb],hpr,rfl,?_,rfl,rfl⟩
   obtain ⟨-,hb1,hb2⟩:=hbr
   generalize (obF n).2 ⟨unV ma,u,t,z,es.map unEx,fs.map unS,d⟩=c at *
   simp [fzV,fzD,comZ,comPs,bkK,hb,hb1,hb2]
  | false =>
   refine ⟨rfl,_,by show bkR n _ _=_; rw [bkR_f hb],hpr,rfl,?_,rfl,rfl⟩
   rw [bk_plain hb]
   simp [fzV,fzD,comZ,comPs,bkK,hb,wrapC]
 ·cases hs
theorem ob_ok:∀ n:Nat,FnOk Tryz.prog 30 (tofS n)∧FnOk Tryz.prog 37 (tbackS n):=by
 intro n
 induction n with
 | zero=>exact ⟨tof_step 0 (fun xs hp r h=>by cases h),tback_step 0 (fun xs hp r h=>by cases h)⟩
 | succ n ih=>exact ⟨tof_step (n+1) ih.2,tback_step (n+1) ih.1⟩
def zChgZ:AV:=.agg [(20,.blob (zr20.map U)),(1,.str []),(1,.int .i64 0),(1,.int .i64 0),(1,.sl 1 []),(1,.sl 1 []),(1,.str [])]
def zComZ:AV:=.agg (comPs zr20 (.sl 1 []) who0 who0 (.sl 1 []) [])
def tchgPre (n:Nat) (c:ComL):Prop:=sizeOkC c∧szC (aloneC c)∧mz c.extras≤n
noncomputable def tchgR (n:Nat) (c:ComL) (z:AV) (pr:Prop):Option Ret:=if rightC c=true then some ⟨.tup [chgZ ((obF n).1 (aloneC c)),.int .i64 0],[],pr⟩ else some ⟨.tup [z,.int .i64 4],[],pr⟩
noncomputable def tchgSz (n:Nat) (zz:AV):Spec:=fun xs hp=>match xs,hp with
 | [.agg [(20,.blob t),(1,.sl kq ps),(1,.str an),(1,.str am),(1,.int .i64 at'),(1,.str az),(1,.str cn),(1,.str cm),(1,.int .i64 ct),(1,.str cz),(1,.sl ke es),(1,.str m)]],[] =>
  tchgR n ⟨unV t,ps.map unId,⟨an,am,at',az⟩,⟨cn,cm,ct,cz⟩,es.map unEx,m⟩ zz (argC t kq ps ke es∧tchgPre n ⟨unV t,ps.map unId,⟨an,am,at',az⟩,⟨cn,cm,ct,cz⟩,es.map unEx,m⟩)
 | _,_=>none
theorem tchgR_pre {n:Nat} {c:ComL} {z:AV} {pr:Prop} {r:Ret} (h:tchgR n c z pr=some r) (hr:r.pre):pr:=by
 unfold tchgR at h
 split at h <;> (injection h with h; subst h; exact hr)
set_option maxHeartbeats 4000000 in
theorem tchg0_ok (n:Nat):FnOk Tryz.prog 11 (tchgSz n (.agg (chgN [] 0 0 (.con (.slice none 0 0)) []))):=by
 refine fn_slim2 Tryz.func11 s_tchg (Φ:=phiL [(29,[],prnS),(31,[],taloneS),(30,[],tofS n)]) (phi_cons prn_ok (by kernel_rfl) (phi_cons talone_ok (by kernel_rfl) (phi_cons (ob_ok n).1 (by kernel_rfl) phi_nil))) ?_
 intro xs hp r hs hp'
 unfold tchgSz at hs
 split at hs
 ·rename_i t kq ps an am at' az cn cm ct cz ke es m
  obtain ⟨⟨q1,q2,q3,q4,q5⟩,r1,r2,r3⟩:=tchgR_pre hs hp'
  generalize unV t=t at *
  subst q1
  generalize ps.map unId=ps at *
  subst q2
  generalize es.map unEx=es at *
  subst q3
  refine ⟨len_le (by kernel_rfl),?_⟩
  have r1T:=eq_true r1
  cases hr:rightC ⟨t,ps,⟨an,am,at',az⟩,⟨cn,cm,ct,cz⟩,es,m⟩ with
  | false =>
   have e:∀ pr,prnR ⟨t,ps,⟨an,am,at',az⟩,⟨cn,cm,ct,cz⟩,es,m⟩ pr=_:=fun pr=>prnR_f pr hr
   unfold tchgR at hs
   rw [if_neg (by rw [hr]; simp)] at hs
   injection hs with hs; subst hs
   simp only [c_tchg,r_tchg,prnS,e,r1T,unV_U,unId_map,unEx_map,chgN,go_sem,reduceDiv,reduceMod,↓reduceIte,reduceSub,Nat.reduceLT,reduceAdd,reduceLeDiff,reduceCtorEq,Int.reduceEq]
   (repeat' apply And.intro)
   all_goals first | exact q4 | exact q5 | rfl | trivial | skip
  | true =>
   have e:∀ pr,prnR ⟨t,ps,⟨an,am,at',az⟩,⟨cn,cm,ct,cz⟩,es,m⟩ pr=_:=fun pr=>prnR_t pr hr
   unfold tchgR at hs
   rw [if_pos hr] at hs
   injection hs with hs; subst hs
   have ho:ofPre n ⟨zr20,[],⟨an,am,at',az⟩,⟨cn,cm,ct,cz⟩,es,m⟩:=⟨rfl,rfl,hr,r2,r3⟩
   have hoT:=eq_true ho
   simp only [c_tchg,r_tchg,prnS,taloneS,tofS,e,r1T,hoT,aloneC,argC,unV_U,unId_map,unEx_map,List.map_nil,go_sem,reduceDiv,reduceMod,↓reduceIte,reduceEqDiff,reduceSub,Nat.reduceLT,reduceAdd,reduceLeDiff,reduceCtorEq]
   (repeat' apply And.intro)
   all_goals first | exact q4 | exact q5 | rfl | trivial | exact .inr trivial | exact .inl trivial | skip
 ·cases hs
noncomputable def tchgS (n:Nat):Spec:=tchgSz n zChgZ
theorem tchg_ok (n:Nat):FnOk Tryz.prog 11 (tchgS n):=(tchg0_ok n).freezeD fun xs hp r' hs hp' => by
 unfold tchgS tchgSz at hs
 split at hs
 ·rename_i t kq ps an am at' az cn cm ct cz ke es m
  have hpr:=tchgR_pre hs hp'
  unfold tchgR at hs
  split at hs
  ·rename_i hr
   injection hs with hs; subst hs
   refine ⟨rfl,_,by show tchgR n _ _ _=_; unfold tchgR; rw [if_pos hr],hpr,rfl,?_,rfl,rfl⟩
   simp [fzV,fzD,chgZ]
  ·rename_i hr
   injection hs with hs; subst hs
   refine ⟨rfl,_,by show tchgR n _ _ _=_; unfold tchgR; rw [if_neg hr],hpr,rfl,?_,rfl,rfl⟩
   simp [fzV,fzD,zChgZ,chgN]
 ·cases hs
def tcomPre (n:Nat) (x:ChgL):Prop:=x.man.length=20∧sizeH (ownH x)∧szH (ownH x)∧mz x.extras≤n
noncomputable def tcomR (n:Nat) (x:ChgL) (z:AV) (pr:Prop):Option Ret:=if rightH (ownH x)=true then some ⟨.tup [comZ (bkK n (ownH x)) ((obF n).2 (ownH x)),.int .i64 0],[],pr⟩ else some ⟨.tup [z,.int .i64 4],[],pr⟩
noncomputable def tcomSz (n:Nat) (zz:AV):Spec:=fun xs hp=>match xs,hp with
 | [.agg [(20,.blob m),(1,.str u),(1,.int .i64 t),(1,.int .i64 z),(1,.sl ke es),(1,.sl kf fs),(1,.str d)]],[] =>
  tcomR n ⟨unV m,u,t,z,es.map unEx,fs.map unS,d⟩ zz (argG m ke es kf fs∧tcomPre n ⟨unV m,u,t,z,es.map unEx,fs.map unS,d⟩)
 | _,_=>none
theorem tcomR_pre {n:Nat} {x:ChgL} {z:AV} {pr:Prop} {r:Ret} (h:tcomR n x z pr=some r) (hr:r.pre):pr:=by
 unfold tcomR at h
 split at h <;> (injection h with h; subst h; exact hr)
set_option maxHeartbeats 4000000 in
theorem tcom0_ok (n:Nat):FnOk Tryz.prog 19 (tcomSz n (.agg (comPs zr20 (.con (.slice none 0 0)) who0 who0 (.con (.slice none 0 0)) []))):=by
 refine fn_slim2 Tryz.func19 s_tcom (Φ:=phiL [(36,[],gprnS),(35,[],townS),(37,[],tbackS n)]) (phi_cons gprn_ok (by kernel_rfl) (phi_cons town_ok (by kernel_rfl) (phi_cons (ob_ok n).2 (by kernel_rfl) phi_nil))) ?_
 intro xs hp r hs hp'
 unfold tcomSz at hs
 split at hs
 ·rename_i m u t z ke es kf fs d
  obtain ⟨⟨q1,q2,q3,q4,q5⟩,r0,r1,r2,r3⟩:=tcomR_pre hs hp'
  generalize unV m=m at *
  subst q1
  generalize es.map unEx=es at *
  subst q2
  generalize fs.map unS=fs at *
  subst q3 q5
  refine ⟨len_le (by kernel_rfl),?_⟩
  simp only [ownH] at r1 r2
  have r1T:=eq_true r1
  cases hr:rightH ⟨zr20,u,t,z,es,[],d⟩ with
  | false =>
   have e:∀ pr,gprnR ⟨zr20,u,t,z,es,[],d⟩ pr=_:=fun pr=>gprnR_f hr pr
   unfold tcomR at hs
   rw [if_neg (by unfold ownH; simp only; rw [hr]; simp)] at hs
   injection hs with hs; subst hs
   simp only [c_tcom,r_tcom,gprnS,townS,e,r1T,argH,unV_U,unEx_map,comPs,who0,List.map_nil,go_sem,reduceDiv,reduceMod,↓reduceIte,reduceEqDiff,reduceSub,Nat.reduceLT,reduceAdd,reduceLeDiff,reduceCtorEq,Int.reduceEq]
   (repeat' apply And.intro)
   all_goals first | exact q4 | rfl | trivial | skip
  | true =>
   have e:∀ pr,gprnR ⟨zr20,u,t,z,es,[],d⟩ pr=_:=fun pr=>gprnR_t hr pr
   unfold tcomR at hs
   rw [if_pos (by exact hr)] at hs
   injection hs with hs; subst hs
   have ho:bkPre n ⟨zr20,u,t,z,es,[],d⟩:=⟨rfl,rfl,hr,r2,r3⟩
   have hoT:=eq_true ho
   simp only [c_tcom,r_tcom,gprnS,townS,tbackS,e,r1T,hoT,argH,argG,ownH,unV_U,unEx_map,unS_map,List.map_nil,go_sem,reduceDiv,reduceMod,↓reduceIte,reduceEqDiff,reduceSub,Nat.reduceLT,reduceAdd,reduceLeDiff,reduceCtorEq]
   (repeat' apply And.intro)
   all_goals first | exact q4 | rfl | trivial | exact .inr trivial | exact .inl trivial | skip
 ·cases hs
noncomputable def tcomS (n:Nat):Spec:=tcomSz n zComZ
theorem tcom_ok (n:Nat):FnOk Tryz.prog 19 (tcomS n):=(tcom0_ok n).freezeD fun xs hp r' hs hp' => by
 unfold tcomS tcomSz at hs
 split at hs
 ·rename_i m u t z ke es kf fs d
  have hpr:=tcomR_pre hs hp'
  unfold tcomR at hs
  split at hs
  ·rename_i hr
   injection hs with hs; subst hs
   refine ⟨rfl,_,by show tcomR n _ _ _=_; unfold tcomR; rw [if_pos hr],hpr,rfl,?_,rfl,rfl⟩
   simp [fzV,fzD,comZ,comPs]
  ·rename_i hr
   injection hs with hs; subst hs
   refine ⟨rfl,_,by show tcomR n _ _ _=_; unfold tcomR; rw [if_neg hr],hpr,rfl,?_,rfl,rfl⟩
   simp [fzV,fzD,zComZ,comPs]
 ·cases hs
def c_tknown:ACode:=(.seq (.reg none [oS 0 (.mv (.c (.bool false)))]) (.seq (.reg none [oS 6 (.build [(1,(.str [])),(1,(.str [])),(1,(.int .i64 0)),(1,(.str []))] [(0,(1,(.c (.str [65])))),(1,(1,(.c (.str [97])))),(2,(1,(.c (.int .i64 5)))),(3,(1,(.c (.str [45,48,49,48,48]))))]),oS 1 (.new 31 [(1,(.str [])),(1,(.str [])),(1,(.int .i64 0)),(1,(.str []))]),oN (.st (.st 4) (.t 1) (.t 6))]) (.seq (.reg none [oS 8 (.ld (.st 4) (.t 1)),oS 9 (.ld (.st 4) (.t 1)),oS 10 (.build [(20,(.blob (List.replicate 20 (.int .u8 0)))),(1,(.con (.slice none 0 0))),(1,(.str [])),(1,(.str [])),(1,(.int .i64 0)),(1,(.str [])),(1,(.str [])),(1,(.str [])),(1,(.int .i64 0)),(1,(.str [])),(1,(.con (.slice none 0 0))),(1,(.str []))] [(21,(4,(.t 8))),(25,(4,(.t 9))),(30,(1,(.c (.str [109]))))]),oS 11 (.call 11 [(.t 10)]),oS 7 (.mv (.t 11)),oS 12 (.ext (.t 7) 0),oS 13 (.ext (.t 7) 1),oS 2 (.new 40 [(20,(.blob (List.replicate 20 (.int .u8 0)))),(1,(.str [])),(1,(.int .i64 0)),(1,(.int .i64 0)),(1,(.con (.slice none 0 0))),(1,(.con (.slice none 0 0))),(1,(.str []))]),oN (.st (.st 26) (.t 2) (.t 12)),oS 3 (.mv (.t 13))]) (.seq (.reg none [oS 15 (.ld (.st 26) (.t 2)),oS 16 (.call 19 [(.t 15)]),oS 14 (.mv (.t 16)),oS 17 (.ext (.t 14) 0),oS 18 (.ext (.t 14) 1),oS 4 (.new 34 [(20,(.blob (List.replicate 20 (.int .u8 0)))),(1,(.con (.slice none 0 0))),(1,(.str [])),(1,(.str [])),(1,(.int .i64 0)),(1,(.str [])),(1,(.str [])),(1,(.str [])),(1,(.int .i64 0)),(1,(.str [])),(1,(.con (.slice none 0 0))),(1,(.str []))]),oN (.st (.st 31) (.t 4) (.t 17)),oS 5 (.mv (.t 18))]) (.seq (.reg none [oS 19 (.mv (.t 3)),oS 20 (.bin .eql (.t 19) (.c (.int .i64 0))),oS 21 (.mv (.t 20)),oG 22 (.fa 20 (.t 2)) 21,oG 23 (.ld (.one (.str [])) (.t 22)) 21,oG 24 (.bin .eql (.t 23) (.c (.str [65,32,60,97,62]))) 21,oS 25 (.pick (.t 21) (.t 24) (.c (.bool false))),oS 26 (.mv (.t 25)),oG 27 (.fa 21 (.t 2)) 26,oG 28 (.ld (.one (.int .i64 0)) (.t 27)) 26,oG 29 (.bin .eql (.t 28) (.c (.int .i64 5))) 26,oS 30 (.pick (.t 26) (.t 29) (.c (.bool false))),oS 31 (.mv (.t 30)),oG 32 (.fa 23 (.t 2)) 31,oG 33 (.ld (.one (.con (.slice none 0 0))) (.t 32)) 31,oG 34 (.len none false (.t 33)) 31,oG 35 (.bin .eql (.t 34) (.c (.int .i64 1))) 31,oS 36 (.pick (.t 31) (.t 35) (.c (.bool false))),oS 37 (.mv (.t 36)),oG 38 (.fa 23 (.t 2)) 37,oG 39 (.ld (.one (.con (.slice none 0 0))) (.t 38)) 37,oG 40 (.ia 2 (.agg [(1,(.str [])),(1,(.str []))]) (.t 39) (.c (.int .i64 0))) 37,oG 41 (.fa 0 (.t 40)) 37,oG 42 (.ld (.one (.str [])) (.t 41)) 37,oG 43 (.bin .eql (.t 42) (.c (.str [103,105,116]))) 37,oS 44 (.pick (.t 37) (.t 43) (.c (.bool false))),oS 45 (.mv (.t 44)),oG 46 (.mv (.t 5)) 45,oG 47 (.bin .eql (.t 46) (.c (.int .i64 0))) 45,oS 48 (.pick (.t 45) (.t 47) (.c (.bool false))),oS 49 (.mv (.t 48)),oG 50 (.fa 21 (.t 4)) 49,oG 51 (.ld (.st 4) (.t 50)) 49,oG 52 (.ld (.st 4) (.t 1)) 49,oG 53 (.eqS false [(0,((.one (.str [])),0)),(1,((.one (.str [])),0)),(2,((.one (.int .i64 0)),1)),(3,((.one (.str [])),0))] (.t 51) (.t 52)) 49,oS 54 (.pick (.t 49) (.t 53) (.c (.bool false))),oS 55 (.mv (.t 54)),oG 56 (.fa 30 (.t 4)) 55,oG 57 (.ld (.one (.str [])) (.t 56)) 55,oG 58 (.bin .eql (.t 57) (.c (.str [109]))) 55,oS 59 (.pick (.t 55) (.t 58) (.c (.bool false))),oS 60 (.mv (.t 59)),oG 61 (.fa 29 (.t 4)) 60,oG 62 (.ld (.one (.con (.slice none 0 0))) (.t 61)) 60,oG 63 (.len none false (.t 62)) 60,oG 64 (.bin .eql (.t 63) (.c (.int .i64 0))) 60,oS 65 (.pick (.t 60) (.t 64) (.c (.bool false))),oS 0 (.mv (.t 65))]) .ret)))))
def r_tknown:List ARes:=[(.t 0)]
theorem s_tknown:slimF Tryz.prog Tryz.f13=some (c_tknown,r_tknown):=by kernel_rfl
def c_tlchanges:ACode:=(.seq (.reg none [oS 1 (.box 28 31 (.t 0)),oS 2 (.mv (.c (.bool false)))]) (.seq (.reg none [oS 7 (.ld (.st 31) (.t 1)),oS 8 (.call 9 [(.t 7)]),oS 3 (.new 34 [(20,(.blob (List.replicate 20 (.int .u8 0)))),(1,(.con (.slice none 0 0))),(1,(.str [])),(1,(.str [])),(1,(.int .i64 0)),(1,(.str [])),(1,(.str [])),(1,(.str [])),(1,(.int .i64 0)),(1,(.str [])),(1,(.con (.slice none 0 0))),(1,(.str []))]),oN (.st (.st 31) (.t 3) (.t 8))]) (.seq (.reg none [oS 9 (.ld (.st 31) (.t 3)),oS 10 (.call 10 [(.t 9)]),oS 4 (.new 28 [(20,(.blob (List.replicate 20 (.int .u8 0)))),(1,(.con (.slice none 0 0))),(1,(.str [])),(1,(.str [])),(1,(.int .i64 0)),(1,(.str [])),(1,(.str [])),(1,(.str [])),(1,(.int .i64 0)),(1,(.str [])),(1,(.con (.slice none 0 0))),(1,(.str []))]),oN (.st (.st 31) (.t 4) (.t 10))]) (.seq (.reg none [oS 12 (.ld (.st 31) (.t 3)),oS 13 (.call 11 [(.t 12)]),oS 11 (.mv (.t 13)),oS 14 (.ext (.t 11) 0),oS 15 (.ext (.t 11) 1),oS 5 (.new 40 [(20,(.blob (List.replicate 20 (.int .u8 0)))),(1,(.str [])),(1,(.int .i64 0)),(1,(.int .i64 0)),(1,(.con (.slice none 0 0))),(1,(.con (.slice none 0 0))),(1,(.str []))]),oN (.st (.st 26) (.t 5) (.t 14)),oS 6 (.mv (.t 15))]) (.seq (.seq (.reg none [oS 16 (.ld (.st 31) (.t 4)),oS 17 (.call 12 [(.t 16)]),oS 18 (.un .not (.t 17))]) (.cond (.t 18) (.seq (.reg none [oS 19 (.call 13 []),oS 20 (.mv (.t 19)),oG 21 (.mv (.t 6)) 20,oG 22 (.bin .eql (.t 21) (.c (.int .i64 4))) 20,oS 23 (.pick (.t 20) (.t 22) (.c (.bool false))),oS 24 (.mv (.t 23)),oG 25 (.ld (.st 26) (.t 5)) 24,oG 26 (.call 15 [(.t 25)]) 24,oG 27 (.build [(20,(.blob (List.replicate 20 (.int .u8 0)))),(1,(.str [])),(1,(.int .i64 0)),(1,(.int .i64 0)),(1,(.con (.slice none 0 0))),(1,(.con (.slice none 0 0))),(1,(.str []))] []) 24,oG 28 (.call 14 [(.t 26),(.t 27)]) 24,oS 29 (.pick (.t 24) (.t 28) (.c (.bool false))),oS 2 (.mv (.t 29))]) .ret) .skip)) (.seq (.reg (some [(0,true),(1,true),(2,true),(3,true),(4,true),(5,true),(6,false),(7,false),(7,false),(9,true),(10,true),(11,true),(12,true),(13,false),(14,false),(14,false),(16,true),(17,true),(18,true)]) [oS 30 (.call 13 []),oS 31 (.mv (.t 30)),oG 32 (.mv (.t 6)) 31,oG 33 (.bin .eql (.t 32) (.c (.int .i64 0))) 31,oS 34 (.pick (.t 31) (.t 33) (.c (.bool false))),oS 35 (.mv (.t 34)),oG 36 (.ld (.st 26) (.t 5)) 35,oG 37 (.call 15 [(.t 36)]) 35,oG 38 (.ld (.st 31) (.t 4)) 35,oG 39 (.call 16 [(.t 38)]) 35,oG 40 (.call 14 [(.t 37),(.t 39)]) 35,oS 41 (.pick (.t 35) (.t 40) (.c (.bool false))),oS 42 (.mv (.t 41)),oG 43 (.ld (.st 31) (.t 3)) 42,oG 44 (.call 10 [(.t 43)]) 42,oG 45 (.ld (.st 31) (.t 4)) 42,oG 46 (.call 17 [(.t 44),(.t 45)]) 42,oS 47 (.pick (.t 42) (.t 46) (.c (.bool false))),oS 2 (.mv (.t 47))]) .ret))))))
def r_tlchanges:List ARes:=[(.t 2)]
theorem s_tlchanges:slimF Tryz.prog Tryz.f3=some (c_tlchanges,r_tlchanges):=by kernel_rfl
def c_tlcommits:ACode:=(.seq (.reg none [oS 1 (.box 49 26 (.t 0)),oS 2 (.mv (.c (.bool false)))]) (.seq (.reg none [oS 7 (.ld (.st 26) (.t 1)),oS 8 (.call 18 [(.t 7)]),oS 3 (.new 40 [(20,(.blob (List.replicate 20 (.int .u8 0)))),(1,(.str [])),(1,(.int .i64 0)),(1,(.int .i64 0)),(1,(.con (.slice none 0 0))),(1,(.con (.slice none 0 0))),(1,(.str []))]),oN (.st (.st 26) (.t 3) (.t 8))]) (.seq (.reg none [oS 9 (.ld (.st 26) (.t 3)),oS 10 (.call 15 [(.t 9)]),oS 4 (.new 49 [(20,(.blob (List.replicate 20 (.int .u8 0)))),(1,(.str [])),(1,(.int .i64 0)),(1,(.int .i64 0)),(1,(.con (.slice none 0 0))),(1,(.con (.slice none 0 0))),(1,(.str []))]),oN (.st (.st 26) (.t 4) (.t 10))]) (.seq (.reg none [oS 12 (.ld (.st 26) (.t 3)),oS 13 (.call 19 [(.t 12)]),oS 11 (.mv (.t 13)),oS 14 (.ext (.t 11) 0),oS 15 (.ext (.t 11) 1),oS 5 (.new 34 [(20,(.blob (List.replicate 20 (.int .u8 0)))),(1,(.con (.slice none 0 0))),(1,(.str [])),(1,(.str [])),(1,(.int .i64 0)),(1,(.str [])),(1,(.str [])),(1,(.str [])),(1,(.int .i64 0)),(1,(.str [])),(1,(.con (.slice none 0 0))),(1,(.str []))]),oN (.st (.st 31) (.t 5) (.t 14)),oS 6 (.mv (.t 15))]) (.seq (.seq (.reg none [oS 16 (.ld (.st 26) (.t 4)),oS 17 (.call 21 [(.t 16)]),oS 18 (.call 20 [(.t 17)]),oS 19 (.un .not (.t 18))]) (.cond (.t 19) (.seq (.reg none [oS 20 (.call 13 []),oS 21 (.mv (.t 20)),oG 22 (.mv (.t 6)) 21,oG 23 (.bin .eql (.t 22) (.c (.int .i64 4))) 21,oS 24 (.pick (.t 21) (.t 23) (.c (.bool false))),oS 25 (.mv (.t 24)),oG 26 (.ld (.st 31) (.t 5)) 25,oG 27 (.call 10 [(.t 26)]) 25,oG 28 (.build [(20,(.blob (List.replicate 20 (.int .u8 0)))),(1,(.con (.slice none 0 0))),(1,(.str [])),(1,(.str [])),(1,(.int .i64 0)),(1,(.str [])),(1,(.str [])),(1,(.str [])),(1,(.int .i64 0)),(1,(.str [])),(1,(.con (.slice none 0 0))),(1,(.str []))] []) 25,oG 29 (.call 17 [(.t 27),(.t 28)]) 25,oS 30 (.pick (.t 25) (.t 29) (.c (.bool false))),oS 2 (.mv (.t 30))]) .ret) .skip)) (.seq (.reg (some [(0,true),(1,true),(2,true),(3,true),(4,true),(5,true),(6,false),(7,false),(7,false),(9,true),(10,true),(11,true),(12,true),(13,false),(14,false),(14,false),(16,true),(17,true),(18,true)]) [oS 31 (.call 13 []),oS 32 (.mv (.t 31)),oG 33 (.mv (.t 6)) 32,oG 34 (.bin .eql (.t 33) (.c (.int .i64 0))) 32,oS 35 (.pick (.t 32) (.t 34) (.c (.bool false))),oS 36 (.mv (.t 35)),oG 37 (.ld (.st 31) (.t 5)) 36,oG 38 (.call 10 [(.t 37)]) 36,oG 39 (.ld (.st 26) (.t 4)) 36,oG 40 (.call 22 [(.t 39)]) 36,oG 41 (.call 17 [(.t 38),(.t 40)]) 36,oS 42 (.pick (.t 36) (.t 41) (.c (.bool false))),oS 43 (.mv (.t 42)),oG 44 (.ld (.st 26) (.t 3)) 43,oG 45 (.call 15 [(.t 44)]) 43,oG 46 (.ld (.st 26) (.t 4)) 43,oG 47 (.call 14 [(.t 45),(.t 46)]) 43,oS 48 (.pick (.t 43) (.t 47) (.c (.bool false))),oS 2 (.mv (.t 48))]) .ret))))))
def r_tlcommits:List ARes:=[(.t 2)]
theorem s_tlcommits:slimF Tryz.prog Tryz.f4=some (c_tlcommits,r_tlcommits):=by kernel_rfl
end Go.Proofs.YtgaehhechonegaaGreatDoor
