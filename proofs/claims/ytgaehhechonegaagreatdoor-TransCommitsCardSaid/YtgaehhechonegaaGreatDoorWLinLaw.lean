import Derived.Test.YtgaehhechonegaaGreatDoorWFRFDec
import Derived.Lib.SplitLaws
import Derived.Lib.IndexAny
import Derived.Lib.IndexMore
import Derived.Test.YtgaehhechonegaaGreatDoorWRDec
import Derived.Test.YtgaehhechonegaaGreatDoorWAMS
import Derived.Test.YtgaehhechonegaaGreatDoorWShaParse
import Derived.Test.YtgaehhechonegaaGreatDoorWFZone
open Nat (reduceDiv reduceMod reduceSub reduceAdd reduceLeDiff reduceEqDiff)
set_option linter.all false
namespace Go.Proofs.YtgaehhechonegaaGreatDoor
open Go.RowKit
open Go.Lib (index hasPrefix cut indexAny itoa decDigits)
def linesA:List UInt8→List UInt8→List (List UInt8)
 | one,[]=>[one]
 | one,c :: s=>if c=10 then one :: linesA [] s else linesA (one ++ [c]) s
theorem linesA_hit:∀ (a one b:List UInt8),(10:UInt8) ∉ a→linesA one (a ++ 10 :: b)=(one ++ a) :: linesA [] b
 | [],one,b,_=>by rw [List.nil_append,linesA,if_pos rfl,List.append_nil]
 | c :: a,one,b,h=>by
  have h1:c≠10:=fun e=>h (by rw [e]; exact List.mem_cons_self ..)
  have h2:(10:UInt8) ∉ a:=fun e=>h (List.mem_cons_of_mem _ e)
  rw [List.cons_append,linesA,if_neg h1,linesA_hit a _ b h2,List.append_assoc]; rfl
theorem linesA_cut (w x r:List UInt8) (h1:(10:UInt8) ∉ w) (h2:(10:UInt8) ∉ x):linesA [] (w ++ (x ++ 10 :: r))=(w ++ x) :: linesA [] r:=by
 rw [← List.append_assoc,linesA_hit _ _ _ (by rw [List.mem_append]; rintro (h | h); exact h1 h; exact h2 h),List.nil_append]
theorem linesA_ne:∀ (s one:List UInt8),linesA one s≠[]
 | [],one=>by simp [linesA]
 | c :: s,one=>by
  rw [linesA]; split
  ·simp
  ·exact linesA_ne s _
def joinN:List (List UInt8)→List UInt8
 | []=>[]
 | [l]=>l
 | l :: k :: ls=>l ++ 10 :: joinN (k :: ls)
theorem joinN_cons (l:List UInt8) {ls:List (List UInt8)} (h:ls≠[]):joinN (l :: ls)=l ++ 10 :: joinN ls:=by
 cases ls with
 | nil=>exact absurd rfl h
 | cons k ls=>rfl
theorem join_lines:∀ (s one:List UInt8),joinN (linesA one s)=one ++ s
 | [],one=>by simp [linesA,joinN]
 | c :: s,one=>by
  rw [linesA]; split
  ·rename_i h
   rw [joinN_cons _ (linesA_ne _ _),join_lines s [],h]; rfl
  ·rw [join_lines s _,List.append_assoc]; rfl
theorem linesA_len:∀ (s one:List UInt8),(linesA one s).length≤s.length+1
 | [],one=>by simp [linesA]
 | c :: s,one=>by
  rw [linesA]; split
  ·have:=linesA_len s []; simp only [List.length_cons]; omega
  ·have:=linesA_len s (one ++ [c]); simp only [List.length_cons]; omega
theorem linesA_le:∀ (s one l:List UInt8),l∈linesA one s→l.length≤one.length+s.length
 | [],one,l,h=>by rw [linesA,List.mem_singleton] at h; rw [h]; simp
 | c :: s,one,l,h=>by
  rw [linesA] at h
  split at h
  ·rcases List.mem_cons.1 h with rfl | h
   ·omega
   ·have:=linesA_le s [] l h; simp only [List.length_cons,List.length_nil] at this ⊢; omega
  ·have:=linesA_le s _ l h; simp only [List.length_append,List.length_cons,List.length_nil] at this ⊢; omega
def gParents:List (List UInt8)→List (List UInt8) × List (List UInt8)
 | []=>([],[])
 | l :: ls=>if frontL l parW=[] then ([],l :: ls) else (rOut (frontL l parW) :: (gParents ls).1,(gParents ls).2)
def cont1 (acc:List ExL) (v:List UInt8):List ExL:=acc.set (acc.length - 1) ((acc.getD (acc.length - 1) ([],[])).1,(acc.getD (acc.length - 1) ([],[])).2 ++ [10] ++ v)
def gExt:List ExL→List (List UInt8)→List ExL × List (List UInt8)
 | acc,[]=>(acc,[])
 | acc,l :: ls=>if l=[] then (acc,l :: ls) else
   if l.head?=some 32∧acc≠[] then gExt (cont1 acc (l.drop 1)) ls else gExt (acc ++ [((cut l [32]).1,(cut l [32]).2.1)]) ls
noncomputable def gWho (w:List UInt8):List (List UInt8)→WhoL
 | []=>who0
 | l :: _=>guessW (frontL l w)
noncomputable def guessC (b:List UInt8):ComL :=
 ⟨rOut (frontL ((linesA [] b).headD []) treW),(gParents ((linesA [] b).drop 1)).1,gWho autW (gParents ((linesA [] b).drop 1)).2,
  gWho comW ((gParents ((linesA [] b).drop 1)).2.drop 1),(gExt [] ((gParents ((linesA [] b).drop 1)).2.drop 2)).1,
  joinN ((gExt [] ((gParents ((linesA [] b).drop 1)).2.drop 2)).2.drop 1)⟩
theorem frontL_app (w x:List UInt8):frontL (w ++ x) w=x:=by
 unfold frontL; rw [if_pos (pre_app w x),List.drop_left]
theorem cont1_app (acc:List ExL) (k w v:List UInt8):cont1 (acc ++ [(k,w)]) v=acc ++ [(k,w ++ 10 :: v)]:=by
 unfold cont1
 have e:(acc ++ [(k,w)]).length - 1=acc.length:=by simp
 rw [e]
 have e2:(acc ++ [(k,w)]).getD acc.length ([],[])=(k,w):=by simp [List.getD_eq_getElem?_getD]
 rw [e2,List.set_append_right _ _ (Nat.le_refl _),Nat.sub_self,List.set_cons_zero]
 simp
theorem gParents_app:∀ (ps:List (List UInt8)) (r:List UInt8),(∀ p∈ps,p.length=20)→frontL ((linesA [] r).headD []) parW=[] →
  gParents (linesA [] (ps.flatMap parL ++ r))=(ps,linesA [] r)
 | [],r,_,h=>by
  rw [List.flatMap_nil,List.nil_append]
  cases hl:linesA [] r with
  | nil=>exact absurd hl (linesA_ne _ _)
  | cons l ls=>rw [hl,List.headD_cons] at h; rw [gParents,if_pos h]
 | p :: ps,r,hp,h=>by
  have hl:=hp p (List.mem_cons_self ..)
  have h0:=hexL_length p
  rw [List.flatMap_cons,List.append_assoc,parL_shape,linesA_cut _ _ _ (by decide) (hexL_no10 p),gParents,frontL_app,
   if_neg (by intro e; rw [e,hl] at h0; simp at h0),gParents_app ps r (fun q hq=>hp q (List.mem_cons_of_mem _ hq)) h,rOut_eq,pOut_hex p hl]
theorem gExt_cont:∀ (n:Nat) (v w k r:List UInt8) (acc:List ExL),v.length≤n→gExt (acc ++ [(k,w)]) (linesA [] (32 :: (sb v ++ 10 :: r)))=gExt (acc ++ [(k,w ++ 10 :: v)]) (linesA [] r):=by
 have step:∀ (a w k r:List UInt8) (acc:List ExL),(10:UInt8) ∉ a→gExt (acc ++ [(k,w)]) (linesA [] (32 :: (a ++ 10 :: r)))=gExt (acc ++ [(k,w ++ 10 :: a)]) (linesA [] r):=by
  intro a w k r acc ha
  have e:=linesA_cut [32] a r (by decide) ha
  have e:linesA [] (32 :: (a ++ 10 :: r))=(32 :: a) :: linesA [] r:=e
  rw [e,gExt,if_neg (by simp),if_pos ⟨rfl,by simp⟩,show (32 :: a).drop 1=a from rfl,cont1_app]
 intro n
 induction n with
 | zero =>
  intro v w k r acc hn
  obtain rfl:v=[]:=List.eq_nil_of_length_eq_zero (by omega)
  exact step [] w k r acc (by decide)
 | succ n ih =>
  intro v w k r acc hn
  rcases split10 v with h | ⟨a,b,rfl,ha⟩
  ·rw [sb_none h]; exact step v w k r acc h
  ·simp only [List.length_append,List.length_cons] at hn
   rw [sb_app ha,show (32 :: (a ++ 10 :: 32 :: sb b ++ 10 :: r))=32 :: (a ++ 10 :: (32 :: (sb b ++ 10 :: r))) by simp,step a w k _ acc ha,ih b _ k r acc (by omega)]
   simp
theorem gExt_one {x:ExL} {r:List UInt8} {acc:List ExL} (h:extraB x.1=true):gExt acc (linesA [] (exL x ++ r))=gExt (acc ++ [x]) (linesA [] r):=by
 obtain ⟨k,v⟩:=x
 have hk:hasL [32,10] k=false:=by
  unfold extraB at h
  cases g:hasL [32,10] k
  ·rfl
  ·rw [g] at h; simp at h
 have k32:(32:UInt8) ∉ k:=hasL_no hk (by decide)
 have k10:(10:UInt8) ∉ k:=hasL_no hk (by decide)
 have hk0:k≠[]:=by intro e; simp only at h; rw [e] at h; exact absurd h (by decide)
 have step:∀ (a r:List UInt8),(10:UInt8) ∉ a→gExt acc (linesA [] (k ++ 32 :: (a ++ 10 :: r)))=gExt (acc ++ [(k,a)]) (linesA [] r):=by
  intro a r ha
  have e:=linesA_cut (k ++ [32]) a r (by rw [List.mem_append]; rintro (h | h); exact k10 h; exact absurd h (by decide)) ha
  have e:linesA [] (k ++ 32 :: (a ++ 10 :: r))=(k ++ 32 :: a) :: linesA [] r:=by simpa using e
  have hc:cut (k ++ 32 :: a) [32]=(k,a,true):=cut_1 k32
  have hh:(k ++ 32 :: a).head?≠some 32:=by
   cases k with
   | nil=>exact absurd rfl hk0
   | cons z k=>intro e; injection e with e; exact k32 (by rw [e]; exact List.mem_cons_self ..)
  rw [e,gExt,if_neg (by simp),if_neg (fun q=>hh q.1),hc]
 rw [exL_shape]
 simp only
 rcases split10 v with h1 | ⟨a,b,rfl,ha⟩
 ·rw [sb_none h1]; exact step v r h1
 ·rw [sb_app ha,show k ++ 32 :: (a ++ 10 :: 32 :: sb b ++ 10 :: r)=k ++ 32 :: (a ++ 10 :: (32 :: (sb b ++ 10 :: r))) by simp,step a _ ha,gExt_cont b.length b a k r acc (Nat.le_refl _)]
theorem gExt_app:∀ (es:List ExL) (m:List UInt8) (acc:List ExL),es.any badE=false→gExt acc (linesA [] (es.flatMap exL ++ 10 :: m))=(acc ++ es,[] :: linesA [] m)
 | [],m,acc,_=>by
  rw [List.flatMap_nil,List.nil_append,linesA,if_pos rfl,gExt,if_pos rfl,List.append_nil]
 | x :: es,m,acc,h=>by
  rw [List.any_cons] at h
  have hb:extraB x.1=true:=by
   cases g:extraB x.1
   ·unfold badE at h; rw [g] at h; simp at h
   ·rfl
  have hx2:es.any badE=false:=by
   cases g:es.any badE
   ·rfl
   ·rw [g] at h; simp at h
  rw [List.flatMap_cons,List.append_assoc,gExt_one hb,gExt_app es m _ hx2]
  simp
theorem guess_body {c:ComL} (h:rightC c=true) (h20:c.tree.length=20) (hp:∀ p∈c.parents,p.length=20):guessC (bodyC c)=c:=by
 obtain ⟨h1,h2,h3⟩:=rightC_parts h
 generalize hs:bodyC c=s
 rw [bodyC_shape] at hs
 obtain ⟨r4,e4⟩:∃ r,r=c.extras.flatMap exL ++ 10 :: c.message:=⟨_,rfl⟩
 obtain ⟨r3,e3⟩:∃ r,r=comW ++ (textW c.committer ++ 10 :: r4):=⟨_,rfl⟩
 obtain ⟨r2,e2⟩:∃ r,r=autW ++ (textW c.author ++ 10 :: r3):=⟨_,rfl⟩
 obtain ⟨r1,e1⟩:∃ r,r=c.parents.flatMap parL ++ r2:=⟨_,rfl⟩
 rw [← e4,← e3,← e2,← e1] at hs
 have l0:linesA [] s=(treW ++ hexL c.tree) :: linesA [] r1:=by rw [← hs]; exact linesA_cut _ _ _ (by decide) (hexL_no10 _)
 have l2:linesA [] r2=(autW ++ textW c.author) :: linesA [] r3:=by rw [e2]; exact linesA_cut _ _ _ (by decide) (textW_no10 h1)
 have l3:linesA [] r3=(comW ++ textW c.committer) :: linesA [] r4:=by rw [e3]; exact linesA_cut _ _ _ (by decide) (textW_no10 h2)
 have lp:gParents (linesA [] r1)=(c.parents,linesA [] r2):=by
  rw [e1]
  refine gParents_app c.parents r2 hp ?_
  rw [l2]
  unfold frontL
  rw [List.headD_cons,if_neg]
  intro hq
  obtain ⟨t,ht⟩:=pre_iff.1 hq
  injection ht with ht _; exact absurd ht (by decide)
 have le:gExt [] (linesA [] r4)=(c.extras,[] :: linesA [] c.message):=by rw [e4,gExt_app c.extras c.message [] h3]; rfl
 unfold guessC
 rw [l0]
 simp only [List.headD_cons,List.drop_succ_cons,List.drop_zero]
 rw [lp]
 simp only
 rw [l2]
 simp only [List.drop_succ_cons,List.drop_zero]
 rw [l3]
 simp only [List.drop_succ_cons,List.drop_zero,gWho]
 rw [le]
 simp only [List.drop_succ_cons,List.drop_zero]
 rw [frontL_app,frontL_app,frontL_app,guess_text h1,guess_text h2,rOut_eq,pOut_hex _ h20,join_lines,List.nil_append]
theorem guessC_len (b:List UInt8):(guessC b).tree.length=20∧∀ p∈(guessC b).parents,p.length=20:=by
 have hr:∀ l,(rOut l).length=20:=fun l=>by rw [rOut_eq]; exact pOut_len l
 refine ⟨hr _,?_⟩
 have:∀ ls,∀ p∈(gParents ls).1,p.length=20:=by
  intro ls
  induction ls with
  | nil=>intro p hp; cases hp
  | cons l ls ih =>
   rw [gParents]; split
   ·intro p hp; cases hp
   ·intro p hp
    rcases List.mem_cons.1 hp with rfl | hp
    ·exact hr _
    ·exact ih p hp
 exact this _
theorem par_iff (b:List UInt8):parB11 b=(rightC (guessC b) && decide (bodyC (guessC b)=b)):=by
 obtain ⟨g1,g2⟩:=guessC_len b
 rw [Bool.eq_iff_iff,Bool.and_eq_true,decide_eq_true_eq]
 constructor
 ·intro h
  obtain ⟨h1,h2⟩:=body_com h
  obtain ⟨h3,h4⟩:=parC11_len b
  have e:=guess_body h1 h3 h4
  rw [h2] at e
  rw [e]; exact ⟨h1,h2⟩
 ·rintro ⟨h1,h2⟩
  have:=(com_body h1 g1 g2).1
  rwa [h2] at this
theorem par_eq {b:List UInt8} (h:parB11 b=true):guessC b=parC11 b:=by
 obtain ⟨h1,h2⟩:=body_com h
 obtain ⟨h3,h4⟩:=parC11_len b
 have e:=guess_body h1 h3 h4
 rwa [h2] at e
open Go.Lib (index indexByte splitK count countB splitB cut indexAny)
def psl (c:UInt8):List UInt8→List (List UInt8)
 | []=>[[]]
 | b :: r=>if b=c then [] :: psl c r else match psl c r with
  | h :: t=>(b :: h) :: t
  | []=>[[b]]
theorem psl_ne (c:UInt8):∀ l,psl c l≠[]
 | []=>by simp [psl]
 | b :: r=>by
  unfold psl
  split
  ·simp
  ·split <;> simp
theorem psl_cons_ne {c b:UInt8} (h:b≠c) (r:List UInt8):∃ x t,psl c r=x :: t∧psl c (b :: r)=(b :: x) :: t:=by
 cases hp:psl c r with
 | nil=>exact absurd hp (psl_ne c r)
 | cons x t=>exact ⟨x,t,rfl,by rw [psl,if_neg h,hp]⟩
theorem psl_cons_eq (c:UInt8) (r:List UInt8):psl c (c :: r)=[] :: psl c r:=by rw [psl,if_pos rfl]
theorem splitK_psl (c:UInt8):∀ l:List UInt8,splitK [c] 0 (count l [c]) l=psl c l
 | []=>by
  rw [Go.Lib.count_miss (by simp [index])]; rfl
 | b :: l=>by
  have ih:=splitK_psl c l
  by_cases h:b=c
  ·subst h
   have hix:index (b :: l) [b]=0:=by rw [index]; simp [List.isPrefixOf]
   rw [Go.Lib.count_cons_eq,Nat.add_comm,splitK,hix,if_neg (by decide),psl_cons_eq,← ih]
   simp
  ·obtain ⟨x,t,e1,e2⟩:=psl_cons_ne h l
   have hp:([c]:List UInt8).isPrefixOf (b :: l)=false:=by simp [List.isPrefixOf,Ne.symm h]
   have hix:index (b :: l) [c]=if index l [c] == -1 then -1 else index l [c]+1:=by rw [index,hp]; simp
   rw [Go.Lib.count_cons_ne b c l h,e2]
   rw [e1] at ih
   by_cases hm:index l [c] = -1
   ·rw [Go.Lib.count_miss hm] at ih ⊢
    simp only [splitK,List.cons.injEq] at ih ⊢
    exact ⟨⟨trivial,ih.1⟩,ih.2⟩
   ·have hge:=Go.Lib.index_ge l [c]
    obtain ⟨j,hj⟩:∃ j:Nat,index l [c]=j:=⟨(index l [c]).toNat,by omega⟩
    rw [Go.Lib.count_hit (by simp) hj,Nat.add_comm] at ih ⊢
    have hix' : index (b :: l) [c]=((j+1:Nat):Int):=by rw [hix,if_neg (fun e=>hm (beq_iff_eq.1 e)),hj]; omega
    rw [splitK,hj,if_neg (fun e=>hm (by rw [hj]; exact beq_iff_eq.1 e))] at ih
    rw [splitK,hix',if_neg (fun e=>by have:=beq_iff_eq.1 e; omega)]
    simp only [List.length_cons,List.length_nil,Nat.zero_add,Nat.add_zero,Int.toNat_natCast,List.cons.injEq,List.take_succ_cons,List.drop_succ_cons] at ih ⊢
    exact ⟨⟨trivial,ih.1⟩,ih.2⟩
theorem psl_join_len (c:UInt8):∀ l:List UInt8,(psl c l).length≤l.length+1
 | []=>by simp [psl]
 | b :: l=>by
  have ih:=psl_join_len c l
  by_cases h:b=c
  ·subst h; rw [psl_cons_eq]; simp; omega
  ·obtain ⟨x,t,e1,e2⟩:=psl_cons_ne h l
   rw [e2]; rw [e1] at ih; simp at ih ⊢; omega
def pre1 (acc:List UInt8):List (List UInt8)→List (List UInt8)
 | []=>[acc]
 | h :: t=>(acc ++ h) :: t
theorem pre1_nil (l:List (List UInt8)) (h:l≠[]):pre1 [] l=l:=by cases l <;> simp_all [pre1]
theorem pre1_psl_eq (c:UInt8) (acc r:List UInt8):pre1 acc (psl c (c :: r))=acc :: pre1 [] (psl c r):=by
 rw [psl_cons_eq,pre1_nil _ (psl_ne c r)]; simp [pre1]
theorem pre1_psl_ne {c b:UInt8} (h:b≠c) (acc r:List UInt8):pre1 acc (psl c (b :: r))=pre1 (acc ++ [b]) (psl c r):=by
 obtain ⟨x,t,e1,e2⟩:=psl_cons_ne h r
 rw [e1,e2]; simp [pre1]
def badP (q:List UInt8):Bool:=decide (q=[]) || decide (q=[46]) || decide (q=[46,46])
def ctlB (c:UInt8):Bool:=decide (c=0) || decide (c=10) || decide (c=13)
def rightP (p:List UInt8):Bool:=!decide (255<p.length) && !p.any ctlB && !(psl 47 p).any badP
theorem indexAny_nn (chars:List UInt8):∀ s:List UInt8,(decide (0≤indexAny s chars))=s.any fun b=>chars.contains b
 | []=>rfl
 | b :: l=>by
  have ih:=indexAny_nn chars l
  have hg:=Go.Lib.indexAny_ge chars l
  have hd:indexAny (b :: l) chars=if chars.contains b then 0 else if indexAny l chars == -1 then -1 else indexAny l chars+1:=by rw [indexAny]
  rw [List.any_cons,← ih,hd]
  cases hb:chars.contains b with
  | true=>simp
  | false =>
   simp only [Bool.false_or,Bool.false_eq_true,if_false]
   by_cases h:indexAny l chars = -1
   ·rw [if_pos (beq_iff_eq.2 h),h]
   ·rw [if_neg (by simpa using h)]
    rw [Bool.eq_iff_iff]; simp; omega
structure ChgL where
 man:List UInt8
 user:List UInt8
 time:Int
 zone:Int
 extras:List ExL
 files:List (List UInt8)
 desc:List UInt8
def keyC (c:UInt8):Bool:=(decide (97≤c.toNat) && decide (c.toNat≤122)) || (decide (65≤c.toNat) && decide (c.toNat≤90)) || (decide (48≤c.toNat) && decide (c.toNat≤57)) || decide (c.toNat=45) || decide (c.toNat=95)
def keyedB (s:List UInt8):Bool:=decide (s≠[]) && decide (s.length≤100) && s.all keyC
def ascB:List (List UInt8)→Bool
 | []=>true
 | [_]=>true
 | a :: b :: r=>Op.bytesLess a b && ascB (b :: r)
def rightH (c:ChgL):Bool:=decide (c.user≠[]) && !c.user.contains 10 && decide (0≤c.time) && decide (c.time<4611686018427387904) && decide (-86399≤c.zone) && decide (c.zone≤86399) &&
 (c.extras.all fun x=>keyedB x.1) && ascB (c.extras.map Prod.fst) && c.files.all rightP && ascB c.files
def escC (c:UInt8):List UInt8:=if c=92 then [92,92] else if c=10 then [92,110] else if c=13 then [92,114] else if c=0 then [92,48] else [c]
def tolL (v:List UInt8):List UInt8:=v.flatMap escC
def joinB (c:UInt8):List (List UInt8)→List UInt8
 | []=>[]
 | x :: xs=>x ++ xs.flatMap (c :: ·)
def exT (x:ExL):List UInt8:=x.1 ++ 58 :: tolL x.2
def exsT:List ExL→List UInt8
 | []=>[]
 | x :: xs=>32 :: joinB 0 ((x :: xs).map exT)
def fileT (f:List UInt8):List UInt8:=f ++ [10]
def dateT (c:ChgL):List UInt8:=itoa c.time ++ 32 :: (itoa c.zone ++ exsT c.extras)
def bodyH (c:ChgL):List UInt8:=hexL c.man ++ 10 :: (c.user ++ 10 :: (dateT c ++ 10 :: (c.files.flatMap fileT ++ 10 :: c.desc)))
def q1 (s:List UInt8):=cut s [10]
def q2 (s:List UInt8):=cut (q1 s).2.1 [10]
def q3 (s:List UInt8):=cut (q2 s).2.1 [10]
def tP (s:List UInt8):=cut (q3 s).1 [32]
def zP (s:List UInt8):=cut (tP s).2.1 [32]
noncomputable def bad0 (s:List UInt8):Bool:=!(q1 s).2.2 || !(q2 s).2.2 || !(q3 s).2.2 || !nmB (tP s).1 || !nmB (zP s).1
theorem cut1_t {s:List UInt8} {c:UInt8} (h:(cut s [c]).2.2=true):s=(cut s [c]).1 ++ c :: (cut s [c]).2.1:=cut_t h
theorem keyC_no {k:List UInt8} (h:keyedB k=true) {c:UInt8} (hc:keyC c=false):c ∉ k:=by
 unfold keyedB at h
 simp only [Bool.and_eq_true,List.all_eq_true] at h
 intro hm
 have:=h.2 c hm
 rw [hc] at this; cases this
structure RightH (c:ChgL):Prop where
 user:c.user≠[]∧(10:UInt8) ∉ c.user
 time:0≤c.time∧c.time<4611686018427387904
 zone : -86399≤c.zone∧c.zone≤86399
 keys:∀ x∈c.extras,keyedB x.1=true
 paths:∀ f∈c.files,rightP f=true
theorem rightH_of {c:ChgL} (h:rightH c=true):RightH c:=by
 unfold rightH at h
 simp only [Bool.and_eq_true,decide_eq_true_eq,List.all_eq_true,Bool.not_eq_true'] at h
 obtain ⟨⟨⟨⟨⟨⟨⟨⟨⟨h1,h2⟩,h3⟩,h4⟩,h5⟩,h6⟩,h7⟩,h8⟩,h9⟩,h10⟩:=h
 exact ⟨⟨h1,fun hm=>by rw [List.contains_iff_mem.2 hm] at h2; cases h2⟩,⟨h3,h4⟩,⟨h5,h6⟩,h7,h9⟩
theorem less_tri:∀ a b:List UInt8,Op.bytesLess a b=!(Op.bytesLess b a || decide (b=a))
 | [],[]=>by simp [Op.bytesLess]
 | [],y :: b=>by simp [Op.bytesLess]
 | x :: a,[]=>by simp [Op.bytesLess]
 | x :: a,y :: b=>by
  have ih:=less_tri a b
  unfold Op.bytesLess
  rcases Nat.lt_trichotomy x.toNat y.toNat with h | h | h
  ·have h1:x<y:=h
   have h2:¬ y<x:=by intro hh; have:y.toNat<x.toNat:=hh; omega
   have h3:y≠x:=by intro e; rw [e] at h; omega
   simp [h1,h2,h3]
  ·have e:x=y:=UInt8.toNat_inj.1 h
   subst e
   have h1:¬ x<x:=by intro hh; have:x.toNat<x.toNat:=hh; omega
   simp [h1,ih]
  ·have h1:¬ x<y:=by intro hh; have:x.toNat<y.toNat:=hh; omega
   have h2:y<x:=h
   have h3:x≠y:=by intro e; rw [e] at h; omega
   simp [h1,h2,h3]
open Go.Lib (index hasPrefix cut indexAny itoa)
def hgW:List UInt8:=[104,103]
def gitW:List UInt8:=[103,105,116]
def zr20:List UInt8:=List.replicate 20 0
def wordsT (c:ChgL):List UInt8:=c.user ++ 10 :: (itoa c.time ++ 32 :: (itoa c.zone ++ 10 :: c.extras.flatMap exL))
def spG:Nat→List UInt8→List ExL→List ExL
 | 0,_,acc=>acc
 | f+1,r,acc=>if r=[] then acc else
   if hasPrefix (cut r [10]).1 [32]=true∧acc≠[] then spG f (cut r [10]).2.1 (cont1 acc ((cut r [10]).1.drop 1))
   else spG f (cut r [10]).2.1 (acc ++ [((cut (cut r [10]).1 [32]).1,(cut (cut r [10]).1 [32]).2.1)])
def s1 (s:List UInt8):=cut s [10]
def s2 (s:List UInt8):=cut (s1 s).2.1 [10]
def s3 (s:List UInt8):=cut (s2 s).1 [32]
noncomputable def spkC (s d:List UInt8):ChgL:=⟨zr20,(s1 s).1,nmV (s3 s).1,nmV (s3 s).2.1,spG ((s2 s).2.1.length+1) (s2 s).2.1 [],[],d⟩
noncomputable def spkB (s d:List UInt8):Bool:=rightH (spkC s d) && decide (wordsT (spkC s d)=s)
theorem pre32 (l r:List UInt8):hasPrefix (32 :: l ++ r) [32]=true:=pre_app [32] (l ++ r)
theorem spG_nil (f:Nat) (acc:List ExL):spG f [] acc=acc:=by cases f <;> rfl
theorem spG_cont:∀ (n:Nat) (v:List UInt8),v.length≤n→∀ (f:Nat) (r:List UInt8) (acc:List ExL) (k w:List UInt8),v.length+1+r.length<f →
  ∃ f',r.length<f' ∧ spG f (32 :: (sb v ++ 10 :: r)) (acc ++ [(k,w)])=spG f' r (acc ++ [(k,w ++ 10 :: v)])
 | n,v,hn,f,r,acc,k,w,hf=>by
  obtain ⟨f,rfl⟩:∃ j,f=j+1:=⟨f - 1,by omega⟩
  have ha:acc ++ [(k,w)]≠[]:=by simp
  rcases split10 v with h | ⟨a,b,rfl,h⟩
  ·rw [sb_none h]
   have hc:cut (32 :: (v ++ 10 :: r)) [10]=(32 :: v,r,true):=cut_1 (a:=32 :: v) (by intro hm; rcases List.mem_cons.1 hm with hm | hm <;> first | exact absurd hm (by decide) | exact h hm)
   refine ⟨f,by omega,?_⟩
   rw [spG,if_neg (by simp),hc]
   simp only
   rw [if_pos ⟨by have:=pre32 v []; rwa [List.append_nil] at this,ha⟩,List.drop_succ_cons,List.drop_zero,cont1_app]
  ·simp only [List.length_append,List.length_cons] at hn hf
   match n,hn with
   | n+1,hn =>
    obtain ⟨f',h1,h2⟩:=spG_cont n b (by omega) f r acc k (w ++ 10 :: a) (by omega)
    refine ⟨f',h1,?_⟩
    rw [sb_app h]
    have hc:cut (32 :: (a ++ 10 :: 32 :: sb b ++ 10 :: r)) [10]=(32 :: a,32 :: (sb b ++ 10 :: r),true):=by
     have e:32 :: (a ++ 10 :: 32 :: sb b ++ 10 :: r)=(32 :: a) ++ 10 :: (32 :: (sb b ++ 10 :: r)):=by simp
     rw [e]
     exact cut_1 (by intro hm; rcases List.mem_cons.1 hm with hm | hm <;> first | exact absurd hm (by decide) | exact h hm)
    rw [spG,if_neg (by simp),hc]
    simp only
    rw [if_pos ⟨by have:=pre32 a []; rwa [List.append_nil] at this,ha⟩,List.drop_succ_cons,List.drop_zero,cont1_app,h2]
    simp
theorem keyed_no {k:List UInt8} (h:keyedB k=true):k≠[]∧(10:UInt8) ∉ k∧(32:UInt8) ∉ k:=by
 refine ⟨?_,keyC_no h (by decide),keyC_no h (by decide)⟩
 rintro rfl; revert h; decide
theorem sb_ge:∀ s:List UInt8,s.length≤(sb s).length
 | []=>Nat.le_refl _
 | c :: s=>by
  have ih:=sb_ge s
  unfold sb at ih ⊢
  by_cases h:c=10
  ·subst h; rw [subst1_hit]; simp only [List.length_append,List.length_cons,List.length_nil]; omega
  ·rw [subst1_miss _ _ h]; simp only [List.length_cons]; omega
theorem spG_one {x:ExL} (h:keyedB x.1=true) (f:Nat) (r:List UInt8) (acc:List ExL) (hf:(exL x ++ r).length<f):∃ f',r.length<f' ∧ spG f (exL x ++ r) acc=spG f' r (acc ++ [x]):=by
 obtain ⟨k,v⟩:=x
 obtain ⟨h1,h2,h3⟩:=keyed_no h
 simp only at h1 h2 h3
 obtain ⟨f,rfl⟩:∃ j,f=j+1:=⟨f - 1,by omega⟩
 rw [exL_shape] at hf ⊢
 simp only [List.length_append,List.length_cons] at hf ⊢
 have hpre:∀ l:List UInt8,hasPrefix (k ++ 32 :: l) [32]=false:=by
  intro l
  cases hh:hasPrefix (k ++ 32 :: l) [32] with
  | false=>rfl
  | true =>
   obtain ⟨q,hq⟩:=pre_iff.1 hh
   cases k with
   | nil=>exact absurd rfl h1
   | cons y k =>
    injection hq with hq
    exact absurd (by rw [hq]; exact List.mem_cons_self ..) h3
 rcases split10 v with h9 | ⟨a,b,rfl,h9⟩
 ·rw [sb_none h9] at hf ⊢
  have e:k ++ 32 :: (v ++ 10 :: r)=(k ++ 32 :: v) ++ 10 :: r:=by simp
  have hc:cut (k ++ 32 :: (v ++ 10 :: r)) [10]=(k ++ 32 :: v,r,true):=by
   rw [e]
   exact cut_1 (by simp only [List.mem_append,List.mem_cons,not_or]; exact ⟨h2,by decide,h9⟩)
  refine ⟨f,by omega,?_⟩
  rw [spG,if_neg (by cases k <;> simp),hc]
  simp only
  rw [if_neg (by rw [hpre]; simp),cut_1 h3]
 ·rw [sb_app h9] at hf ⊢
  have hb:b.length≤(sb b).length:=sb_ge b
  simp only [List.length_append,List.length_cons] at hf
  obtain ⟨f',g1,g2⟩:=spG_cont b.length b (Nat.le_refl _) f r acc k a (by omega)
  refine ⟨f',g1,?_⟩
  have e:k ++ 32 :: (a ++ 10 :: 32 :: sb b ++ 10 :: r)=(k ++ 32 :: a) ++ 10 :: (32 :: (sb b ++ 10 :: r)):=by simp
  have hc:cut (k ++ 32 :: (a ++ 10 :: 32 :: sb b ++ 10 :: r)) [10]=(k ++ 32 :: a,32 :: (sb b ++ 10 :: r),true):=by
   rw [e]
   exact cut_1 (by simp only [List.mem_append,List.mem_cons,not_or]; exact ⟨h2,by decide,h9⟩)
  rw [spG,if_neg (by cases k <;> simp),hc]
  simp only
  rw [if_neg (by rw [hpre]; simp),cut_1 h3,g2]
theorem spG_flat:∀ (es:List ExL) (f:Nat) (acc:List ExL),(es.flatMap exL).length<f→(∀ x∈es,keyedB x.1=true)→spG f (es.flatMap exL) acc=acc ++ es
 | [],f,acc,_,_=>by rw [List.flatMap_nil,spG_nil,List.append_nil]
 | x :: es,f,acc,hf,h=>by
  rw [List.flatMap_cons] at hf ⊢
  obtain ⟨f',h1,h2⟩:=spG_one (h x (List.mem_cons_self ..)) f (es.flatMap exL) acc hf
  rw [h2,spG_flat es f' _ h1 fun y hy=>h y (List.mem_cons_of_mem _ hy)]
  simp
theorem spk_words {c:ChgL} (h:rightH c=true) (hm:c.man=zr20) (hf:c.files=[]):spkC (wordsT c) c.desc=c∧(s1 (wordsT c)).2.2=true∧(s2 (wordsT c)).2.2=true∧(s3 (wordsT c)).2.2=true:=by
 have hr:=rightH_of h
 generalize hs:wordsT c=s
 unfold wordsT at hs
 have e1:s1 s=(c.user,itoa c.time ++ 32 :: (itoa c.zone ++ 10 :: c.extras.flatMap exL),true):=by unfold s1; rw [← hs]; exact cut_1 hr.user.2
 have n1:=itoa_no c.time 10 (by decide) (by decide)
 have n2:=itoa_no c.zone 10 (by decide) (by decide)
 have n3:=itoa_no c.time 32 (by decide) (by decide)
 have e2:s2 s=(itoa c.time ++ 32 :: itoa c.zone,c.extras.flatMap exL,true):=by
  unfold s2; rw [e1]
  have e:itoa c.time ++ 32 :: (itoa c.zone ++ 10 :: c.extras.flatMap exL)=(itoa c.time ++ 32 :: itoa c.zone) ++ 10 :: c.extras.flatMap exL:=by simp
  simp only
  rw [e]
  exact cut_1 (by simp only [List.mem_append,List.mem_cons,not_or]; exact ⟨n1,by decide,n2⟩)
 have e3:s3 s=(itoa c.time,itoa c.zone,true):=by unfold s3; rw [e2]; exact cut_1 n3
 obtain ⟨-,m2⟩:=nm_itoa (z:=c.time) (by have:=hr.time; omega) hr.time.2
 obtain ⟨-,m4⟩:=nm_itoa (z:=c.zone) (by have:=hr.zone; omega) (by have:=hr.zone; omega)
 refine ⟨?_,by rw [e1],by rw [e2],by rw [e3]⟩
 unfold spkC
 rw [e1,e2,e3]
 simp only
 rw [m2,m4,spG_flat c.extras _ [] (Nat.lt_succ_self _) hr.keys,List.nil_append,← hm,← hf]
theorem spk_flags {s d:List UInt8} (h:spkB s d=true):rightH (spkC s d)=true∧wordsT (spkC s d)=s∧(s1 s).2.2=true∧(s2 s).2.2=true∧(s3 s).2.2=true:=by
 unfold spkB at h
 rw [Bool.and_eq_true,decide_eq_true_eq] at h
 obtain ⟨h1,h2⟩:=h
 obtain ⟨-,h4,h5,h6⟩:=spk_words h1 rfl rfl
 rw [h2] at h4 h5 h6
 exact ⟨h1,h2,h4,h5,h6⟩
def plainH (c:ComL):ChgL:=⟨zr20,c.author.name ++ [32,60] ++ c.author.mail ++ [62],c.author.time,0,[(gitW,bodyC ⟨zr20,[],c.author,c.committer,c.extras,[]⟩)],[],c.message⟩
def hgWho (t:Int):WhoL:=⟨hgW,hgW,t,[43,48,48,48,48]⟩
def wrapC (x:ChgL):ComL:=⟨zr20,[],hgWho x.time,hgWho x.time,[(hgW,wordsT x)],x.desc⟩
def only1:List ExL→Option ExL
 | [x]=>some x
 | _=>none
def noTree (c:ComL):Bool:=decide (c.tree=zr20) && decide (c.parents=[]) && decide (c.message=[])
def withM (c:ComL) (m:List UInt8):ComL:=⟨c.tree,c.parents,c.author,c.committer,c.extras,m⟩
open Classical in
noncomputable def ofStep (B:ChgL→ComL) (c:ComL):ChgL :=
 match only1 c.extras with
 | some (k,v)=>if k=hgW∧spkB v c.message=true∧B (spkC v c.message)=c then spkC v c.message else plainH c
 | none=>plainH c
open Classical in
noncomputable def bkStep (O:ComL→ChgL) (x:ChgL):ComL :=
 match only1 x.extras with
 | some (k,v)=>if k=gitW∧parB11 v=true∧noTree (parC11 v)=true∧O (withM (parC11 v) x.desc)=x then withM (parC11 v) x.desc else wrapC x
 | none=>wrapC x
noncomputable def obF:Nat→(ComL→ChgL) × (ChgL→ComL)
 | 0=>(plainH,wrapC)
 | n+1=>(ofStep (obF n).2,bkStep (obF n).1)
theorem obF_of (n:Nat) (c:ComL):(obF (n+1)).1 c=ofStep (obF n).2 c:=rfl
theorem obF_back (n:Nat) (x:ChgL):(obF (n+1)).2 x=bkStep (obF n).1 x:=rfl
def mz (es:List ExL):Nat:=(es.map fun x=>x.2.length).sum
theorem mz_flat:∀ es:List ExL,mz es≤(es.flatMap exL).length
 | []=>Nat.le_refl _
 | x :: es=>by
  have ih:=mz_flat es
  have h:x.2.length≤(exL x).length:=by
   have:=sb_ge x.2
   unfold exL; simp only [List.length_append]; unfold sb at this; omega
  simp only [mz,List.map_cons,List.sum_cons,List.flatMap_cons,List.length_append] at ih ⊢; omega
theorem only1_some {es:List ExL} {x:ExL} (h:only1 es=some x):es=[x]:=by
 match es,h with
 | [_],h=>simp only [only1,Option.some.injEq] at h; rw [h]
theorem mz_one {es:List ExL} {x:ExL} (h:only1 es=some x):mz es=x.2.length:=by rw [only1_some h]; simp [mz]
theorem spk_mz {v d:List UInt8} (h:spkB v d=true):mz (spkC v d).extras<v.length:=by
 have h2:=(spk_flags h).2.1
 have h3:=mz_flat (spkC v d).extras
 have:=congrArg List.length h2
 unfold wordsT at this
 simp only [List.length_append,List.length_cons] at this
 omega
theorem par_mz {v:List UInt8} (h:parB11 v=true):mz (parC11 v).extras<v.length:=by
 have h2:=(body_com h).2
 have h3:=mz_flat (parC11 v).extras
 have:=congrArg List.length h2
 rw [bodyC_shape] at this
 simp only [List.length_append,List.length_cons] at this
 omega
theorem spkB_nil (d:List UInt8):spkB [] d=false:=by
 cases h:spkB [] d with
 | false=>rfl
 | true=>have:=spk_mz h; simp at this
theorem parB_nil:parB11 []=false:=by
 cases h:parB11 [] with
 | false=>rfl
 | true=>have:=par_mz h; simp at this
theorem ob_stab:∀ (n m:Nat),(∀ c,mz c.extras≤n→mz c.extras≤m→(obF n).1 c=(obF m).1 c)∧(∀ x,mz x.extras≤n→mz x.extras≤m→(obF n).2 x=(obF m).2 x):=by
 have zero:∀ m,(∀ c,mz c.extras≤0→(obF m).1 c=plainH c)∧(∀ x,mz x.extras≤0→(obF m).2 x=wrapC x):=by
  intro m
  cases m with
  | zero=>exact ⟨fun _ _=>rfl,fun _ _=>rfl⟩
  | succ m =>
   constructor
   ·intro c hc
    show ofStep _ c=_
    unfold ofStep
    cases ho:only1 c.extras with
    | none=>rfl
    | some x =>
     obtain ⟨k,v⟩:=x
     have:=mz_one ho
     have hv:v=[]:=List.length_eq_zero_iff.1 (by simp only at this; omega)
     subst hv
     simp only
     rw [if_neg (by rw [spkB_nil]; simp)]
   ·intro x hx
    show bkStep _ x=_
    unfold bkStep
    cases ho:only1 x.extras with
    | none=>rfl
    | some y =>
     obtain ⟨k,v⟩:=y
     have:=mz_one ho
     have hv:v=[]:=List.length_eq_zero_iff.1 (by simp only at this; omega)
     subst hv
     simp only
     rw [if_neg (by rw [parB_nil]; simp)]
 intro n
 induction n with
 | zero=>intro m; exact ⟨fun c h _=>by rw [(zero m).1 c h]; rfl,fun x h _=>by rw [(zero m).2 x h]; rfl⟩
 | succ n ih =>
  intro m
  cases m with
  | zero=>exact ⟨fun c _ h=>by rw [(zero (n+1)).1 c h]; rfl,fun x _ h=>by rw [(zero (n+1)).2 x h]; rfl⟩
  | succ m =>
   obtain ⟨i1,i2⟩:=ih m
   constructor
   ·intro c h1 h2
    show ofStep _ c=ofStep _ c
    unfold ofStep
    cases ho:only1 c.extras with
    | none=>rfl
    | some y =>
     obtain ⟨k,v⟩:=y
     have hz:=mz_one ho
     simp only at hz ⊢
     by_cases hs:spkB v c.message=true
     ·have:=spk_mz hs
      rw [i2 (spkC v c.message) (by omega) (by omega)]
     ·rw [if_neg (fun h=>hs h.2.1),if_neg (fun h=>hs h.2.1)]
   ·intro x h1 h2
    show bkStep _ x=bkStep _ x
    unfold bkStep
    cases ho:only1 x.extras with
    | none=>rfl
    | some y =>
     obtain ⟨k,v⟩:=y
     have hz:=mz_one ho
     simp only at hz ⊢
     by_cases hs:parB11 v=true
     ·have:=par_mz hs
      rw [i1 (withM (parC11 v) x.desc) (by show mz (parC11 v).extras≤n; omega) (by show mz (parC11 v).extras≤m; omega)]
     ·rw [if_neg (fun h=>hs h.2.1),if_neg (fun h=>hs h.2.1)]
def aloneC (c:ComL):ComL:=⟨zr20,[],c.author,c.committer,c.extras,c.message⟩
def ownH (c:ChgL):ChgL:=⟨zr20,c.user,c.time,c.zone,c.extras,[],c.desc⟩
theorem right_plain {c:ComL} (h:rightC c=true):rightH (plainH c)=true:=by
 obtain ⟨h1,-,-⟩:=rightC_parts h
 unfold rightW at h1
 simp only [Bool.and_eq_true,Bool.not_eq_true',decide_eq_true_eq] at h1
 obtain ⟨⟨⟨h1,h2⟩,h3⟩,-⟩:=h1
 have hu:(plainH c).user.contains 10=false:=by
  cases hh:(plainH c).user.contains 10 with
  | false=>rfl
  | true =>
   exfalso
   have hm:=List.contains_iff_mem.1 hh
   simp only [plainH,List.mem_append,List.mem_cons,List.not_mem_nil,or_false] at hm
   have:hasL [60,62,10] (c.author.name ++ c.author.mail)=true:=by
    refine (hasL_iff _ _).2 ⟨10,?_,by decide⟩
    rcases hm with ((hm | hm | hm) | hm) | hm
    ·exact List.mem_append_left _ hm
    ·exact absurd hm (by decide)
    ·exact absurd hm (by decide)
    ·exact List.mem_append_right _ hm
    ·exact absurd hm (by decide)
   rw [this] at h1; cases h1
 unfold rightH
 rw [hu]
 have hn:decide ((plainH c).user≠[])=true:=decide_eq_true (by unfold plainH; simp)
 have ha:decide (0≤(plainH c).time)=true:=decide_eq_true h2
 have hb:decide ((plainH c).time<4611686018427387904)=true:=decide_eq_true h3
 rw [hn,ha,hb]
 have hx:((plainH c).extras.all fun x=>keyedB x.1)=true:=by
  unfold plainH; simp only [List.all_cons,List.all_nil,Bool.and_true]; decide
 rw [hx]; rfl
theorem right_wrap {x:ChgL} (h:rightH x=true):rightC (wrapC x)=true:=by
 have hr:=(rightH_of h).time
 have hw:rightW (hgWho x.time)=true:=by
  unfold rightW hgWho
  simp only [decide_eq_true hr.1,decide_eq_true hr.2]
  decide
 unfold rightC wrapC
 simp only [hw,List.any_cons,List.any_nil,Bool.or_false]
 unfold badE
 simp only
 decide
theorem of_right (n:Nat) {c:ComL} (h:rightC c=true):rightH ((obF n).1 c)=true∧((obF n).1 c).man=zr20∧((obF n).1 c).files=[]:=by
 cases n with
 | zero=>exact ⟨right_plain h,rfl,rfl⟩
 | succ n =>
  show rightH (ofStep _ c)=true∧(ofStep _ c).man=zr20∧(ofStep _ c).files=[]
  unfold ofStep
  cases only1 c.extras with
  | none=>exact ⟨right_plain h,rfl,rfl⟩
  | some y =>
   obtain ⟨k,v⟩:=y
   simp only
   split
   ·rename_i hh
    exact ⟨(spk_flags hh.2.1).1,rfl,rfl⟩
   ·exact ⟨right_plain h,rfl,rfl⟩
theorem noTree_iff {c:ComL}:noTree c=true↔c.tree=zr20∧c.parents=[]∧c.message=[]:=by
 unfold noTree; simp [and_assoc]
theorem back_right (n:Nat) {x:ChgL} (h:rightH x=true):rightC ((obF n).2 x)=true∧((obF n).2 x).tree=zr20∧((obF n).2 x).parents=[]:=by
 cases n with
 | zero=>exact ⟨right_wrap h,rfl,rfl⟩
 | succ n =>
  show rightC (bkStep _ x)=true∧(bkStep _ x).tree=zr20∧(bkStep _ x).parents=[]
  unfold bkStep
  cases only1 x.extras with
  | none=>exact ⟨right_wrap h,rfl,rfl⟩
  | some y =>
   obtain ⟨k,v⟩:=y
   simp only
   split
   ·rename_i hh
    obtain ⟨t1,t2,-⟩:=noTree_iff.1 hh.2.2.1
    exact ⟨(body_com hh.2.1).1,t1,t2⟩
   ·exact ⟨right_wrap h,rfl,rfl⟩
theorem back_of {c:ComL} (h:rightC c=true) (ht:c.tree=zr20) (hp:c.parents=[]) {n m:Nat} (hn:mz c.extras≤n) (hm:mz ((obF n).1 c).extras≤m):(obF m).2 ((obF n).1 c)=c:=by
 have plain:(obF n).1 c=plainH c→(obF m).2 ((obF n).1 c)=c:=by
  intro e
  rw [e] at hm ⊢
  generalize hb:bodyC ⟨zr20,[],c.author,c.committer,c.extras,[]⟩=b
  have hd:rightC ⟨zr20,[],c.author,c.committer,c.extras,[]⟩=true:=h
  obtain ⟨k1,k2⟩:=com_body hd rfl (fun p hp=>by cases hp)
  rw [hb] at k1 k2
  have hmz:=par_mz k1
  rw [k2] at hmz
  simp only at hmz
  have hex:(plainH c).extras=[(gitW,b)]:=by unfold plainH; rw [hb]
  have hm2:b.length≤m:=by rw [hex] at hm; simpa [mz] using hm
  obtain ⟨m,rfl⟩:∃ j,m=j+1:=⟨m - 1,by omega⟩
  have hc:withM (parC11 b) (plainH c).desc=c:=by
   rw [k2]; unfold withM plainH; cases c; simp only at ht hp ⊢; rw [ht,hp]
  have ho:(obF m).1 c=plainH c:=by rw [← e]; exact (ob_stab m n).1 c (by omega) hn
  rw [obF_back]
  unfold bkStep
  rw [hex]
  simp only [only1]
  rw [hc,if_pos ⟨rfl,k1,by rw [k2]; exact noTree_iff.2 ⟨rfl,rfl,rfl⟩,ho⟩]
 cases n with
 | zero=>exact plain rfl
 | succ n =>
  by_cases hp' : (obF (n+1)).1 c=plainH c
  ·exact plain hp'
  ·have hst:(obF (n+1)).1 c=ofStep (obF n).2 c:=rfl
   unfold ofStep at hst
   cases ho:only1 c.extras with
   | none=>rw [ho] at hst; exact absurd hst hp'
   | some y =>
    obtain ⟨k,v⟩:=y
    rw [ho] at hst
    simp only at hst
    split at hst
    ·rename_i hh
     have hz:=mz_one ho
     have:=spk_mz hh.2.1
     simp only at hz
     rw [hst] at hm ⊢
     rw [(ob_stab m n).2 _ hm (by omega)]
     exact hh.2.2
    ·exact absurd hst hp'
end Go.Proofs.YtgaehhechonegaaGreatDoor
