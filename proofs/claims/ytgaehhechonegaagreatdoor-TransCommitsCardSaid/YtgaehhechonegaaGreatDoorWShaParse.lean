import Derived.Test.YtgaehhechonegaaGreatDoorWFCom1
import Derived.Test.YtgaehhechonegaaGreatDoorWFZone
import Derived.Test.YtgaehhechonegaaGreatDoorWMem
import Derived.Test.YtgaehhechonegaaGreatDoorWShelf
import Derived.Test.YtgaehhechonegaaGreatDoorChecked
import Derived.Test.YtgaehhechonegaaGreatDoorWAMS
import Derived.Lib.IndexLaws
open Nat (reduceDiv reduceMod reduceSub reduceAdd reduceLeDiff reduceEqDiff)
set_option linter.all false
namespace Go.Proofs.YtgaehhechonegaaGreatDoor
open Go.RowKit
theorem idx_dv (c:UInt8) (w:World):Calls Tryz.prog 133 #[.string ⟨#[48,49,50,51,52,53,54,55,56,57,97,98,99,100,101,102]⟩,.int .u8 (c.toNat:Int)] w fun e w' => e=.returned (.int .i64 (dv c))∧w' = w:=by
 have h:=Tryz.strings_IndexByte ⟨#[48,49,50,51,52,53,54,55,56,57,97,98,99,100,101,102]⟩ (c.toNat:Int) w
 have e:(c.toNat:Int).toNat.toUInt8=c:=by simp
 rw [e] at h
 have e2:dv c=Lib.indexByte ((⟨#[48,49,50,51,52,53,54,55,56,57,97,98,99,100,101,102]⟩:ByteArray).data.toList) c:=by unfold dv; rfl
 rw [e2]; exact h
theorem index_str (l:List UInt8) (k:Nat) (hk:k<l.length) (w:World):(Instr.index 9 (.string ⟨l.toArray⟩) (.int .i64 (k:Int))).run Tryz.prog w=.ok (.int .u8 ((l.getD k 0).toNat:Int)) w:=by
 have e:(⟨l.toArray⟩:ByteArray).size=l.length:=rfl
 rw [run_index_string _ _ _ _ _ Tryz.underlying9,dif_pos ⟨by omega,by rw [e]; omega⟩]
 have e2:(⟨l.toArray⟩:ByteArray)[(k:Int).toNat]'(by rw [e]; omega)=l.getD k 0:=by
  simp only [Int.toNat_natCast]
  rw [List.getD_eq_getElem?_getD,List.getElem?_eq_getElem hk]
  rfl
 rw [e2]
theorem results_row_tmp {P:Program} {fn:Func} {p u:Tmp} {ty:TypeId} (h:fn.results=#[.cell p ty,.tmp u]) (tmps:Array Value) (w:World) (g:Nat) (t:TypeId) (cs:Array Value) (fr:Nat × Nat) (d:TypeDesc)
  (hp:tmps.getD p undef=.pointer (some ⟨g,0,none⟩)) (hg:w.heap[g]?=some (.cells cs t fr))
  (hu:P.underlying ty=some d) (hd:(match d with | .struct _ | .array _ _=>true | _=>false)=true) (hi:(P.info? ty).map (·.size)=some cs.size) :
  (results fn tmps).run P w=.ok (.tuple #[.agg cs,tmps.getD u undef]) w:=by
 rw [results_cell_tmp h,hp]
 simp [asAddr,run_loadVar_row w g t ty cs fr d hg hu hd hi]
theorem or_digF:∀ d v:Fin 16,d.1 * 16 ||| v.1=d.1 * 16+v.1:=by decide +kernel
theorem or_dig (d v:Nat) (hd:d<16) (hv:v<16):bits .or .u8 ((d:Int) * 16 % 256) (v:Int)=((d * 16+v:Nat):Int):=by
 rw [show (d:Int) * 16 % 256=((d * 16:Nat):Int) by omega,u8_or_nat _ _ (by omega) (by omega),or_digF ⟨d,hd⟩ ⟨v,hv⟩]
theorem U_all (l:List UInt8):((l.map U).toArray).all (·.oneCell')=true:=by
 simp [U,Value.oneCell']
theorem z20_size:z20.size=20:=by unfold z20; simp
theorem z20_one:z20.all (·.oneCell')=true:=by unfold z20; simp [Value.oneCell']
set_option maxHeartbeats 2000000 in
set_option maxRecDepth 100000 in
theorem shaParse (l:List UInt8) (w:World) (hl:l.length≤1000000000) :
  Calls Tryz.prog 113 #[.string ⟨l.toArray⟩] w fun e w' => e=.returned (.tuple (if l.length=40∧∀ c∈l,0≤dv c then #[.agg (outC l 40),.int .i64 0] else #[.agg z20,.int .i64 4]))∧Below w.heap.size w w' := by
 obtain ⟨R,hR⟩:∃ R,R=Value.tuple (if l.length=40∧∀ c∈l,0≤dv c then #[.agg (outC l 40),.int .i64 0] else #[.agg z20,.int .i64 4]):=⟨_,rfl⟩
 rw [← hR]
 have HR:=hide hR
 clear hR
 have hz:=zero20
 have hzs:=z20_size
 have hS:=((Sep.start w).allocC z20 29).allocC z20 29
 rw [World.size_alloc] at hS
 simp only [List.cons_append,List.nil_append] at hS
 have hlc:(⟨l.toArray⟩:ByteArray).size=l.length:=rfl
 go_enter Tryz.func113,Tryz.ntmps113
 by_cases h40:l.length=40
 ·go_wp2
  have hzc:z20=outC l 0:=by rw [outC_zero]; rfl
  have hS2:Sep w.heap.size w ((w.alloc (.cells z20 29)).alloc (.cells z20 29)) [.blk w.heap.size 29 z20,.blk (w.heap.size+1) 29 (outC l 0)]:=by rw [← hzc]; exact hS
  clear hS hzc
  go_loopw [13] (fun i wr=>∃ k:Nat,k≤40∧i=.int .i64 k∧(∀ c∈l.take k,0≤dv c)∧Sep w.heap.size w wr [.blk w.heap.size 29 z20,.blk (w.heap.size+1) 29 (outC l k)])
   (fun i _=>40 - (intOf i).toNat)
  case atStart=>exact ⟨0,by omega,rfl,(fun c hc=>by simp at hc),hS2⟩
  case round =>
   clear hS2
   obtain ⟨k,hk,rfl,hval,hS⟩:=hrel
   by_cases hlt:k<40
   ·have hlt' : (k:Int)<(l.length:Int):=by omega
    have hx:=index_str l k (by omega)
    have hmem:l.getD k 0∈l:=by
     rw [List.getD_eq_getElem?_getD,List.getElem?_eq_getElem (by omega)]; exact List.getElem_mem _
    have htk:l.take (k+1)=l.take k ++ [l.getD k 0]:=by
     rw [List.take_succ,List.getElem?_eq_getElem (by omega),List.getD_eq_getElem?_getD,List.getElem?_eq_getElem (by omega)]; rfl
    have hE:=outN_even l k
    have hO:=outN_odd l k
    have hstep:=outC_step l k
    obtain ⟨c,hc⟩:∃ c,l.getD k 0=c:=⟨_,rfl⟩
    rw [hc] at hx hmem htk hE hO
    have hvl:=dv_lt c
    go_wp2_with (at_builtin; refine stopAt ?_)
    refine (idx_dv c wr).mono ?_
    rintro e w2 ⟨rfl,rfl⟩
    by_cases hv:dv c<0
    ·have hno:¬ (l.length=40∧∀ c∈l,0≤dv c):=fun h=>by have:=h.2 c hmem; omega
     have Hno:=hide hno
     clear hno hE hO hstep hval htk hmem
     go_wp2_with (with_reducible refine wpList_stopStore (ty:=29) (x:=.tmp 2) (y:=.tmp 22) rfl ?_)
     refine unstop (wpList_store_rowS hS 0 rfl rfl 29 (.tmp 2) (.tmp 22) rfl rfl rfl (by rw [hzs]; exact info20) rfl z20_one ?_)
     clear hS
     intro w2 hS
     simp only [List.set_cons_zero] at hS
     have hb0:=hS.blk 0 rfl
     have hbl:=hS.below
     go_wp2
     refine ⟨by simp,_,?_,(by rw [HR.out,if_neg Hno.out]),hbl⟩
     refine results_row_tmp (p:=2) (u:=3) rfl _ w2 w.heap.size 29 _ (0,0) _ ?_ hb0 Tryz.underlying29 rfl (by rw [hzs]; exact info20)
     rfl
    ·obtain ⟨v,hv2⟩:∃ v:Nat,dv c=v:=⟨(dv c).toNat,by omega⟩
     have hv16:v<16:=by omega
     have hv0:¬ (v:Int)<0:=by omega
     rw [hv2]
     have g1:w2.cell? ⟨w.heap.size+1,k / 2,none⟩=some (.int .u8 (outN l k (k / 2):Int)):=hS.cell 1 (k / 2) rfl (outC_at l k (k / 2) (by omega))
     have f1:=hS.frozen 1 (k / 2) rfl
     have hE2:bits .or .u8 ((outN l k (k / 2):Int) * 16 % 256) (v:Int)=(outN l (k+1) (k / 2):Int):=by
      rcases Nat.mod_two_eq_zero_or_one k with h2 | h2
      ·obtain ⟨a1,a2⟩:=hE h2
       have h3:=or_dig 0 v (by omega) hv16
       rw [Nat.zero_mul,Nat.zero_add] at h3
       rw [a1,a2,hv2,Int.toNat_natCast]
       exact h3
      ·obtain ⟨a1,a2⟩:=hO h2
       rw [a2,hv2,or_dig _ v a1 hv16]
       simp; omega
     replace hE2:=hide hE2
     have hst:=hide (hstep _ hE2.out)
     clear hE hO hstep
     go_wp2
     go_roundw
     case rel =>
      refine ⟨k+1,by omega,by simp,fun x hx=>?_,(hS.store 1 (j:=k / 2) rfl _).cast ?_⟩
      ·rw [htk,List.mem_append,List.mem_singleton] at hx
       rcases hx with hx | rfl
       ·exact hval x hx
       ·omega
      ·simp only [List.set_cons_succ,List.set_cons_zero]
       rw [hst.out]
     case measure=>simp [intOf]; omega
   ·obtain rfl:k=40:=by omega
    rw [List.take_of_length_le (by omega)] at hval
    have hyes:=hide (show l.length=40∧∀ c∈l,0≤dv c from ⟨h40,hval⟩)
    clear hval
    go_wp2_with (with_reducible refine wpList_stopLoad (ty:=29) (x:=.tmp 4) rfl ?_)
    refine unstop (wpList_load_row rfl 29 (.tmp 4) rfl (w.heap.size+1) rfl 29 (outC l 40) (0,0) _ (hS.blk 1 rfl) Tryz.underlying29 rfl (by rw [outC_size]; exact info20) ?_)
    refine wpList_store_rowS hS 0 rfl rfl 29 (.tmp 2) (.tmp 35) rfl rfl rfl (by rw [outC_size]; exact info20) (by rw [outC_size,hzs]) (by rw [outC_U]; exact U_all _) ?_
    clear hS
    intro w2 hS
    simp only [List.set_cons_zero] at hS
    have hb0:=hS.blk 0 rfl
    have hbl:=hS.below
    go_wp2
    refine ⟨by simp,_,?_,(by rw [HR.out,if_pos hyes.out]),hbl⟩
    refine results_row_tmp (p:=2) (u:=3) rfl _ w2 w.heap.size 29 _ (0,0) _ ?_ hb0 Tryz.underlying29 rfl (by rw [outC_size]; exact info20)
    rfl
 ·have HR2:=hide (HR.out.trans (by rw [if_neg (fun h=>h40 h.1)]))
  clear HR
  have hne:((l.length:Int) != 40)=true:=by rw [bne_iff_ne]; omega
  go_wp2_with (with_reducible refine wpList_stopStore (ty:=29) (x:=.tmp 2) (y:=.tmp 10) rfl ?_)
  refine unstop (wpList_store_rowS hS 0 rfl rfl 29 (.tmp 2) (.tmp 10) rfl rfl rfl (by rw [hzs]; exact info20) rfl z20_one ?_)
  clear hS
  intro w2 hS
  simp only [List.set_cons_zero] at hS
  have hb0:=hS.blk 0 rfl
  go_wp2
  have hbl:=hS.below
  refine ⟨by simp,_,?_,(by rw [HR2.out]),hbl⟩
  refine results_row_tmp (p:=2) (u:=3) rfl _ w2 w.heap.size 29 _ (0,0) _ ?_ hb0 Tryz.underlying29 rfl (by rw [hzs]; exact info20)
  rfl
def goodQ (l:List UInt8):Bool:=decide (l.length=40∧∀ c∈l,0≤dv c)
def pOut (l:List UInt8):List UInt8:=if goodQ l=true then outL l 40 else List.replicate 20 0
def pErr (l:List UInt8):Int:=if goodQ l=true then 0 else 4
def parseS:Spec:=fun xs hp=>match xs,hp with
 | [.str l],[]=>some ⟨.tup [.blob ((pOut l).map U),.int .i64 (pErr l)],[],l.length≤1000000000⟩
 | _,_=>none
theorem parse_ok:FnOk Tryz.prog 113 parseS:=by
 refine fnok_of_calls fun xs0 hp r hs hp' => ?_
 unfold parseS at hs
 split at hs
 ·rename_i l
  injection hs with hs; subst hs
  refine ⟨rfl,rfl,fun w S ρ args hS ha=>?_⟩
  obtain ⟨v,vs,rfl,hv,hr⟩:=ha.get _ _ rfl
  obtain rfl:=hr.none
  rw [hv.str]
  refine (shaParse l w hp').mono ?_
  rintro e w' ⟨rfl,hb⟩
  refine ⟨_,rfl,hb,fun w' S ρ=>?_⟩
  have hz:(List.replicate 20 (0:UInt8)).map U=List.replicate 20 (.int .u8 0):=rfl
  unfold pOut pErr
  by_cases hg:l.length=40∧∀ c∈l,0≤dv c
  ·have hg' : goodQ l=true:=decide_eq_true hg
   rw [if_pos hg,if_pos hg',if_pos hg',outC_U]
   exact ⟨[_,_],rfl,rfl,fun i hi=>by
    match i,hi with
    | 0,_=>exact blob_U _ _ _ _
    | 1,_=>exact Vl.int' _ _⟩
  ·have hg' : ¬ goodQ l=true:=by unfold goodQ; simpa using hg
   rw [if_neg hg,if_neg hg',if_neg hg',hz]
   exact ⟨[_,_],rfl,rfl,fun i hi=>by
    match i,hi with
    | 0,_=>exact Vl.blob' (List.replicate 20 (.int .u8 0)) (by simp [Value.oneCell'])
    | 1,_=>exact Vl.int' _ _⟩
 ·cases hs
open Go.Lib (index hasPrefix trimPrefix cut indexAny)
def hasPreS:Spec:=fun xs hp=>match xs,hp with
 | [.str s,.str p],[]=>some ⟨.bool (hasPrefix s p),[],True⟩
 | _,_=>none
theorem hasPre_ok:FnOk Tryz.prog 84 hasPreS:=by
 refine fnok_of_calls fun xs0 hp r hs hp' => ?_
 unfold hasPreS at hs
 split at hs
 ·rename_i s p
  injection hs with hs; subst hs
  refine ⟨rfl,rfl,fun w S ρ args hS ha=>?_⟩
  obtain ⟨v,vs,rfl,hv,hr⟩:=ha.get _ _ rfl
  obtain ⟨u,us,rfl,hu,hr⟩:=hr.get _ _ rfl
  obtain rfl:=hr.none
  rw [hv.str,hu.str]
  refine (Tryz.strings_HasPrefix ⟨s.toArray⟩ ⟨p.toArray⟩ w).mono ?_
  rintro e w' ⟨rfl,rfl⟩
  exact ⟨_,rfl,Below.refl _ _,fun _ _ _=>Vl.bool' _⟩
 ·cases hs
open Go.Lib (index hasPrefix cut indexAny itoa)
theorem cutl1 (s p:List UInt8):(cut s p).1.length≤s.length:=by
 unfold cut; split
 ·simp only [List.length_take]; omega
 ·simp
theorem cutl2 (s p:List UInt8):(cut s p).2.1.length≤s.length:=by
 unfold cut; split
 ·simp only [List.length_drop]; omega
 ·simp
noncomputable def timeN (s:List UInt8):Int:=if decB s=true then (decN s:Int) else 0
noncomputable def fdecT:Spec:=fun xs hp=>match xs,hp with
 | [.str s],[]=>some ⟨.tup [.int .i64 (timeN s),.int .i64 (if decB s=true then 0 else 4)],[],s.length≤281474976710656⟩
 | _,_=>none
theorem fdecT_ok:FnOk Tryz.prog 106 fdecT:=by
 refine fdec_ok.imp fun xs hp r hs hp' => ?_
 unfold fdecT at hs
 split at hs
 ·rename_i s
  injection hs with hs; subst hs
  by_cases h:decB s=true
  ·refine ⟨⟨.tup [.int .i64 (decN s:Int),.int .i64 0],[],s.length≤281474976710656⟩,?_,hp',?_,rfl⟩
   ·show (if decB s=true then _ else _)=_
    rw [if_pos h]
   ·show AV.tup [.int .i64 (decN s:Int),.int .i64 0]=AV.tup [.int .i64 (timeN s),.int .i64 (if decB s=true then 0 else 4)]
    rw [if_pos h,show timeN s=(decN s:Int) from if_pos h]
  ·refine ⟨⟨.tup [.int .i64 0,.int .i64 4],[],s.length≤281474976710656⟩,?_,hp',?_,rfl⟩
   ·show (if decB s=true then _ else _)=_
    rw [if_neg h]
   ·show AV.tup [.int .i64 0,.int .i64 4]=AV.tup [.int .i64 (timeN s),.int .i64 (if decB s=true then 0 else 4)]
    rw [if_neg h,show timeN s=0 from if_neg h]
 ·cases hs
noncomputable def personW (s:List UInt8):WhoL :=
 ⟨(cut s [32,60]).1,(cut (cut s [32,60]).2.1 [62,32]).1,timeN (cut (cut (cut s [32,60]).2.1 [62,32]).2.1 [32]).1,(cut (cut (cut s [32,60]).2.1 [62,32]).2.1 [32]).2.1⟩
noncomputable def personB (s:List UInt8):Bool :=
 (cut s [32,60]).2.2 && (cut (cut s [32,60]).2.1 [62,32]).2.2 && (cut (cut (cut s [32,60]).2.1 [62,32]).2.1 [32]).2.2 && decB (cut (cut (cut s [32,60]).2.1 [62,32]).2.1 [32]).1 && rightW (personW s)
def who0:WhoL:=⟨[],[],0,[]⟩
noncomputable def personV (s:List UInt8):WhoL:=if personB s=true then personW s else who0
noncomputable def personR (s:List UInt8) (pr:Prop):Option Ret:=some ⟨.tup [.agg (whoP (personV s)),.int .i64 (if personB s=true then 0 else 4)],[],pr⟩
noncomputable def personS:Spec:=fun xs hp=>match xs,hp with
 | [.str s],[]=>personR s (s.length≤1000000000)
 | _,_=>none
set_option maxHeartbeats 2000000 in
theorem person_ok:FnOk Tryz.prog 114 personS:=by
 refine fn_slim2 Tryz.func114 s_cperson (Φ:=phiL [(82,[],cutS),(106,[],fdecT),(75,[],crightS)]) (phi_cons cut_ok (by kernel_rfl) (phi_cons fdecT_ok (by kernel_rfl) (phi_cons cright_ok (by kernel_rfl) phi_nil))) ?_
 intro xs hp r hs hp'
 unfold personS personR at hs
 split at hs
 ·injection hs with hs; subst hs
  rename_i s
  have p1:s.length≤1000000000:=hp'
  refine ⟨len_le (by kernel_rfl),?_⟩
  have hA1:=cutl1 s [32,60]
  have hA2:=cutl2 s [32,60]
  have hB1:=cutl1 (cut s [32,60]).2.1 [62,32]
  have hB2:=cutl2 (cut s [32,60]).2.1 [62,32]
  have hC1:=cutl1 (cut (cut s [32,60]).2.1 [62,32]).2.1 [32]
  have hC2:=cutl2 (cut (cut s [32,60]).2.1 [62,32]).2.1 [32]
  unfold personV whoP who0 personB personW
  simp only [c_cperson,cutS,fdecT,go_sem,reduceDiv,reduceMod,↓reduceIte,reduceEqDiff,reduceSub,Nat.reduceLT,reduceAdd,reduceLeDiff,reduceCtorEq]
  generalize cut s [32,60]=A at *
  generalize cut A.2.1 [62,32]=B at *
  generalize cut B.2.1 [32]=C at *
  refine ⟨by omega,by omega,by omega,by omega,?_⟩
  cases h1:A.2.2 <;> cases h2:B.2.2 <;> cases h3:C.2.2 <;> cases h4:decB C.1
  all_goals (try simp only [k_cperson_6,r_cperson,crightS,Bool.false_and,Bool.and_false,Bool.true_and,Bool.false_eq_true,go_sem,reduceDiv,reduceMod,↓reduceIte,reduceEqDiff,reduceSub,reduceAdd,reduceLeDiff,reduceCtorEq,Int.reduceEq])
  cases h5:rightW ⟨A.1,B.1,timeN C.1,C.2.1⟩
  all_goals simp only [Bool.false_eq_true,go_sem,↓reduceIte,reduceCtorEq]
  all_goals omega
 ·cases hs
structure TagL where
 object:List UInt8
 kind:Int
 name:List UInt8
 tagger:WhoL
 message:List UInt8
theorem textW_len {w:WhoL} (h:rightW w=true):(textW w).length≤w.name.length+w.mail.length+w.zone.length+26:=by
 obtain ⟨h1,h2⟩:=rightW_time h
 have:=Lib.itoa_length_le w.time (by omega) (by omega)
 simp only [textW,List.length_append,List.length_cons,List.length_nil]
 omega
def lineG (s w:List UInt8):Option (List UInt8 × List UInt8):=if (cut s [10]).2.2=true∧hasPrefix (cut s [10]).1 w=true then some ((cut s [10]).1.drop w.length,(cut s [10]).2.1) else none
def lineR (T:TypeId) (s:List UInt8) (b:Bool) (pr:Prop):Option (List UInt8 × List UInt8)→Option Ret
 | some (x,r)=>some ⟨.tup [.str x,.int .i64 0],[.cells T [(1,.str r),(1,.bool b)]],pr⟩
 | none=>some ⟨.tup [.str [],.int .i64 (-1)],[.cells T [(1,.str s),(1,.bool b)]],pr⟩
def lineS:Spec:=fun xs hp=>match xs,hp with
 | [.ref 0 0 0,.sl 1 [.str w]],[.cells T [(1,.str s),(1,.bool b)]]=>lineR T s b (s.length≤1000000000) (lineG s w)
 | _,_=>none
theorem lineG_len {s w x r:List UInt8} (h:lineG s w=some (x,r)):x.length≤s.length∧r.length<s.length:=by
 unfold lineG at h
 split at h
 ·rename_i hc
  injection h with h; injection h with h1 h2; subst h1 h2
  have:=congrArg List.length (cut_t hc.1)
  simp only [List.length_append,List.length_cons,List.length_nil] at this
  rw [List.length_drop]; omega
 ·cases h
set_option maxHeartbeats 1000000 in
theorem line_ok:FnOk Tryz.prog 115 lineS:=by
 refine fn_slim2 Tryz.func115 s_cline (Φ:=phiL [(82,[],cutS),(84,[],hasPreS)]) (phi_cons cut_ok (by kernel_rfl) (phi_cons hasPre_ok (by kernel_rfl) phi_nil)) ?_
 intro xs hp r hs hp'
 unfold lineS at hs
 split at hs
 ·rename_i w T s b
  have hpre:s.length≤1000000000:=by
   unfold lineR at hs
   split at hs <;> (injection hs with hs; subst hs; exact hp')
  refine ⟨len_le (by kernel_rfl),?_⟩
  have hA1:=cutl1 s [10]
  simp only [c_cline,cutS,go_sem,reduceDiv,reduceMod,↓reduceIte,Nat.reduceLT,reduceAdd]
  refine ⟨by omega,?_⟩
  unfold lineG at hs
  generalize cut s [10]=A at *
  refine loop2P [] [0,6,7,8,20,21,22] [0] (fun i:Nat=>⟨[(0,.ref 0 0 0),(6,.str A.1),(7,.str A.2.1),(8,.bool A.2.2),(20,.sl 1 [.str w]),(21,.int .i64 1),(22,.int .i64 (i:Int))],[.cells T [(1,.str s),(1,.bool b)]]⟩) (fun i=>i=0∨(i=1∧¬ (A.2.2=true∧hasPrefix A.1 w=true))) (fun i=>1 - i) 0 rfl (.inl rfl) ⟨rfl,rfl⟩ (fun i hi R hR=>?_)
  rcases hi with rfl | ⟨rfl,hi⟩
  ·have go:¬ (A.2.2=true∧hasPrefix A.1 w=true)→∀ s',kp [0,6,7,8,20,21,22] [0].length (toS s')=some ⟨[(0,.ref 0 0 0),(6,.str A.1),(7,.str A.2.1),(8,.bool A.2.2),(20,.sl 1 [.str w]),(21,.int .i64 1),(22,.int .i64 ((1:Nat):Int))],[.cells T [(1,.str s),(1,.bool b)]]⟩→R s' := fun hn s' h=>hR s' 1 (.inr ⟨rfl,hn⟩) (by decide) h
   have c1:decide (((0:Nat):Int)<1)=true:=by decide
   cases h1:A.2.2 with
   | false =>
    rw [h1] at go
    simp only [b_cline_0,t_cline_0,r_cline,go_sem,reduceDiv,reduceMod,↓reduceIte,reduceAdd,Int.reduceLT,Int.reduceLE,Int.reduceToNat]
    exact ⟨⟨by omega,by omega⟩,go (by simp) _ rfl⟩
   | true =>
    cases h2:hasPrefix A.1 w with
    | false =>
     rw [h1,h2] at go
     simp only [b_cline_0,t_cline_0,r_cline,hasPreS,h2,go_sem,reduceDiv,reduceMod,↓reduceIte,reduceEqDiff,reduceAdd,Int.reduceLT,Int.reduceLE,Int.reduceToNat]
     exact ⟨⟨by omega,by omega⟩,go (by simp) _ rfl⟩
    | true =>
     rw [if_pos ⟨h1,h2⟩] at hs
     injection hs with hs; subst hs
     simp only [b_cline_0,t_cline_0,r_cline,hasPreS,h2,Int.toNat_natCast,go_sem,reduceDiv,reduceMod,↓reduceIte,reduceEqDiff,reduceSub,reduceAdd,reduceCtorEq,Int.reduceLT,Int.reduceLE,Int.reduceToNat]
     have hwl:w.length≤A.1.length:=by
      have h3:w.isPrefixOf A.1=true:=h2
      rw [List.isPrefixOf_iff_prefix] at h3
      exact h3.length_le
     exact ⟨⟨by omega,by omega,by omega⟩,by rw [List.take_length]⟩
  ·have c1:decide (((1:Nat):Int)<1)=false:=by decide
   rw [if_neg hi] at hs
   injection hs with hs; subst hs
   simp only [b_cline_0,t_cline_0,r_cline,go_sem,reduceDiv,reduceMod,↓reduceIte,Int.reduceLT]
 ·cases hs
def c_digit:ACode:=(.seq (.reg none [oS 2 (.mv (.c (.int .u8 0)))]) (.seq (.seq (.reg none [oS 3 (.mv (.t 0)),oS 4 (.bin .lss (.t 3) (.c (.int .i64 10)))]) (.cond (.t 4) (.seq (.reg none [oS 5 (.mv (.t 0)),oS 6 (.bin .add (.c (.int .i64 48)) (.t 5)),oS 7 (.toInt .u8 (.t 6)),oS 2 (.mv (.t 7))]) .ret) .skip)) (.seq (.reg none [oS 8 (.mv (.t 0)),oS 9 (.bin .add (.c (.int .i64 87)) (.t 8)),oS 10 (.toInt .u8 (.t 9)),oS 2 (.mv (.t 10))]) .ret)))
def r_digit:List ARes:=[(.t 2)]
theorem s_digit:slimF Tryz.prog Tryz.f74=some (c_digit,r_digit):=by kernel_rfl
def digN (n:Int):Int:=if n<10 then 48+n else 87+n
def digitS:Spec:=fun xs hp=>match xs,hp with
 | [.int .i64 n],[]=>some ⟨.int .u8 (digN n),[],0≤n∧n<16⟩
 | _,_=>none
theorem digit_ok:FnOk Tryz.prog 74 digitS:=by
 refine fn_slim Tryz.func74 s_digit (Φ:=phiL []) phi_nil ?_
 intro xs hp r hs hp'
 unfold digitS at hs
 split at hs
 ·injection hs with hs; subst hs
  rename_i n
  refine ⟨len_le (by kernel_rfl),?_⟩
  obtain ⟨p1,p2⟩:=hp'
  simp only [c_digit,r_digit,awp_skip,awp_reg,awp_seq,awp_cond,awp_ret,arun_nil,arun_op,aq_some,ifB_t,thenQ_n,thenQ_r,retQ_r,astep,stV,aval,slots,aret,ares,aBin,aInt,arI,aToInt,St.ev,lk,St.put,↓reduceIte,true_and,List.length_nil,reduceCtorEq,eq_self]
  simp only [inI,digN,renObj,finP,finI,closeIds,addNew,idsOf,List.flatMap_nil,List.take_zero,nodupB,posOf,idsObj,List.range,List.range.loop,ren,lentO,mapO,Option.map,true_and,and_true]
  refine ⟨fun h=>?_,fun h=>?_⟩
  ·have:=of_decide_eq_true h
   rw [if_pos this]
   exact ⟨by omega,congrArg some (congrArg (AV.int .u8) (wrap8 (by omega) (by omega)))⟩
  ·have:=of_decide_eq_false h
   rw [if_neg this]
   exact ⟨by omega,congrArg some (congrArg (AV.int .u8) (wrap8 (by omega) (by omega)))⟩
 ·cases hs
def b_rhex_0:ACode:=(.seq (.seq (.reg none [oS 5 (.mv (.t 4)),oS 6 (.bin .lss (.t 5) (.c (.int .i64 20)))]) (.cond (.t 6) .skip (.exit 0))) (.seq (.block 1 (.reg (some [(0,false),(1,false),(2,false),(3,false),(4,false),(5,false),(6,false),(6,false),(6,false),(6,false),(6,false),(6,false),(12,false),(13,false),(14,true),(15,true)]) [oS 9 (.mv (.t 3)),oS 10 (.mv (.t 4)),oS 11 (.iaA 20 (.t 1) (.t 10)),oS 12 (.ld (.one (.int .u8 0)) (.t 11)),oS 13 (.toInt .i64 (.t 12)),oS 14 (.bin .quo (.t 13) (.c (.int .i64 16))),oS 15 (.call 74 [(.t 14)]),oS 16 (.mv (.t 4)),oS 17 (.iaA 20 (.t 1) (.t 16)),oS 18 (.ld (.one (.int .u8 0)) (.t 17)),oS 19 (.toInt .i64 (.t 18)),oS 20 (.bin .rem (.t 19) (.c (.int .i64 16))),oS 21 (.call 74 [(.t 20)]),oS 22 (.buildSl 5 1 [(.t 15),(.t 21)]),oS 23 (.app 5 1 1 (.t 9) (.t 22)),oS 3 (.mv (.t 23))])) (.reg none [oS 7 (.mv (.t 4)),oS 8 (.bin .add (.t 7) (.c (.int .i64 1))),oS 4 (.mv (.t 8))])))
def c_rhex:ACode:=(.seq (.reg none [oS 1 (.box 22 20 (.t 0)),oS 2 (.mv (.c (.str [])))]) (.seq (.reg none [oS 3 (.mv (.c (.con (.slice none 0 0))))]) (.seq (.seq (.reg none [oS 4 (.mv (.c (.int .i64 0)))]) (.block 0 (.loop b_rhex_0))) (.seq (.reg none [oS 24 (.mv (.t 3)),oS 25 (.toStr (.t 24)),oS 2 (.mv (.t 25))]) .ret))))
def r_rhex:List ARes:=[(.t 2)]
theorem s_rhex:slimF Tryz.prog Tryz.f41=some (c_rhex,r_rhex):=by kernel_rfl
def hexI (l:List UInt8):List UInt8:=l.flatMap fun u=>[UInt8.ofNat (digN (u.toNat / 16)).toNat,UInt8.ofNat (digN (u.toNat % 16)).toNat]
theorem hexI_len (l:List UInt8):(hexI l).length=2 * l.length:=by
 unfold hexI
 induction l with
 | nil=>rfl
 | cons u l ih=>rw [List.flatMap_cons,List.length_append,ih]; simp; omega
theorem hexI_append (l m:List UInt8):hexI (l ++ m)=hexI l ++ hexI m:=List.flatMap_append
theorem digN_le {n:Int} (h:0≤n) (h' : n<16):0≤digN n∧digN n<256:=by unfold digN; split <;> omega
def rhexS:Spec:=fun xs hp=>match xs,hp with
 | [.blob cs],[]=>some ⟨.str (hexI (unV cs)),[],cs=(unV cs).map U∧cs.length=20⟩
 | _,_=>none
theorem rhex_ok:FnOk Tryz.prog 41 rhexS:=by
 refine fn_slim Tryz.func41 s_rhex (Φ:=phiL [(74,[],digitS)]) (phi_cons digit_ok (by kernel_rfl) phi_nil) ?_
 intro xs hp r hs hp'
 unfold rhexS at hs
 split at hs
 ·injection hs with hs; subst hs
  rename_i cs
  refine ⟨len_le (by kernel_rfl),?_⟩
  obtain ⟨p1,p2⟩:=hp'
  generalize hl:unV cs=l at *
  subst p1
  have hl:l.length=20:=by simpa using p2
  simp only [c_rhex,r_rhex,awp_reg,awp_seq,awp_block,awp_loop,arun_nil,arun_op,aq_some,thenQ_n,astep,stV,stN,aval,anew,slots,pparts,szOk,St.ev,lk,St.put,↓reduceIte,true_and,List.length_nil,List.nil_append,eq_self,List.length_map]
  refine ⟨hl,?_⟩
  refine loop_at [(3,5,1)] [1,3,4] [0,1] (fun k:Nat=>⟨[(1,.ref 0 0 0),(3,.own 1 k),(4,.int .i64 k)],[.cells 22 [(20,.blob (l.map U))],.row 5 1 k (Bs (hexI (l.take k)))]⟩) (fun k=>k≤20) (fun k=>20 - k) 0 rfl (by omega) ⟨rfl,rfl⟩ (fun k hk=>?_)
  simp only [b_rhex_0,digitS,awp_skip,awp_reg,awp_draw,awp_seq,awp_cond,awp_block,awp_exit,awp_ret,arun_nil,arun_op,arunD_nil,arunD_op,aq_some,ifB_t,thenQ_n,thenQ_x,inQ_n,inQ_x,retQ_r,exD,AOp.isH,keepN,preB,avalP,astep,stV,stN,stE,stC,aval,anew,aElems,frzS,aeff,aret,ares,ofC_U,getD_mapU,Int.toNat_natCast,pt,rdP,aBin,aInt,arI,aToInt,aToStr,aIaA,aLd,pureB,szOk,view,St.ev,lk,St.put,acall0,acall1,acall2,acall3,bor,bor0,bor1,phiL_at,lentO,okIds,flatC,place,setAll_nil,nodupB,renObj,closeIds,addNew,idsOf,idsObj,posOf,lenOk_2,↓reduceIte,reduceEqDiff,Nat.reduceLT,List.map,List.set,List.flatMap_cons,List.flatMap_nil,true_and,and_true,List.length_cons,List.length_nil,reduceAdd,List.nil_append,List.cons_append,List.append_nil,Option.map,mapO,ren,kp,List.range,List.range.loop,List.getElem?_cons_zero,List.getElem?_cons_succ,List.getD_cons_zero,List.getD_cons_succ,List.drop_nil,List.take_zero,List.take_succ_cons,List.all_nil,List.isEmpty_nil,Bool.and_true,Bool.not_false,List.contains_nil,reduceCtorEq,eq_self,Bool.false_eq_true,Nat.le_refl,List.length_map,and_self]
  refine ⟨fun h=>?_,fun h=>?_⟩
  ·have hk:=of_decide_eq_true h
   have hu:=(l.getD k 0).toNat_lt
   have hk' : k<20:=by omega
   rw [Int.tdiv_eq_ediv_of_nonneg (by omega),Int.tmod_eq_emod_of_nonneg (by omega)]
   have hlen:(hexI (l.take k)).length≤40:=by rw [hexI_len,List.length_take]; omega
   simp only [inI,lenOk,bytesOk,Bs,List.length_append,List.length_map,List.length_cons,List.length_nil]
   refine ⟨by omega,by omega,by omega,⟨by omega,by omega⟩,by omega,by omega,by omega,by omega,by omega,by omega,by omega,⟨by omega,by omega⟩,k+1,by omega,by omega,?_⟩
   rw [take_succ' (by omega),hexI_append,List.map_append]
   simp only [hexI,List.flatMap_cons,List.flatMap_nil,List.append_nil,List.map_cons,List.map_nil]
   rw [ub_int (digN_le (by omega) (by omega)).1 (digN_le (by omega) (by omega)).2,ub_int (digN_le (by omega) (by omega)).1 (digN_le (by omega) (by omega)).2]
   rfl
  ·have hk:=of_decide_eq_false h
   rw [List.take_of_length_le (by omega)]
   simp only [renObj,finP,finI,closeIds,addNew,idsOf,List.flatMap_nil,List.take_zero,nodupB,posOf,idsObj,List.range,List.range.loop,ren,lentO,mapO,Option.map,and_true,unB_Bs]
 ·cases hs
theorem digN_digs:∀ k:Fin 16,digN (k.1:Int)=((digs.getD k.1 0).toNat:Int):=by decide
theorem hexI_eq:∀ l:List UInt8,hexI l=hexL l
 | []=>rfl
 | u :: l=>by
  have hu:=u.toNat_lt
  have h1:=digN_digs ⟨u.toNat / 16,by omega⟩
  have h2:=digN_digs ⟨u.toNat % 16,by omega⟩
  simp only at h1 h2
  have ih:=hexI_eq l
  unfold hexI at ih ⊢
  rw [List.flatMap_cons,ih,hexL,show (u.toNat:Int) / 16=((u.toNat / 16:Nat):Int) by omega,show (u.toNat:Int) % 16=((u.toNat % 16:Nat):Int) by omega,h1,h2]
  simp only [Int.toNat_natCast,UInt8.ofNat_toNat,List.cons_append,List.nil_append]
theorem dv_digF:∀ k:Fin 16,Lib.indexByte digs (digs.getD k.1 0)=(k.1:Int):=by decide
theorem dv_dig (k:Nat) (h:k<16):dv (digs.getD k 0)=(k:Int):=by unfold dv; exact dv_digF ⟨k,h⟩
theorem dig_dv (c:UInt8) (h:0≤dv c):digs.getD (dv c).toNat 0=c:=by
 obtain ⟨o,ho⟩:∃ o:Nat,dv c=o:=⟨(dv c).toNat,by omega⟩
 rw [ho]
 unfold dv at ho
 have:=(Lib.indexByte_some ho).1
 simp only [Int.toNat_natCast,List.getD_eq_getElem?_getD,this,Option.getD_some]
theorem hexL_at:∀ (l:List UInt8) (j:Nat),j<l.length→(hexL l).getD (2 * j) 0=digs.getD ((l.getD j 0).toNat / 16) 0∧(hexL l).getD (2 * j+1) 0=digs.getD ((l.getD j 0).toNat % 16) 0
 | [],j,h=>absurd h (by simp)
 | b :: l,0,_=>⟨rfl,rfl⟩
 | b :: l,j+1,h=>by
  have ih:=hexL_at l j (by simpa using h)
  rw [show 2 * (j+1)=2 * j+1+1 by omega,hexL,List.getD_cons_succ,List.getD_cons_succ,List.getD_cons_succ,List.getD_cons_succ,List.getD_cons_succ]
  exact ih
theorem hexL_ok:∀ (l:List UInt8),∀ c∈hexL l,0≤dv c
 | [],c,h=>by cases h
 | b :: l,c,h=>by
  have:=b.toNat_lt
  rw [hexL,List.mem_cons,List.mem_cons] at h
  rcases h with rfl | rfl | h
  ·rw [dv_dig _ (by omega)]; omega
  ·rw [dv_dig _ (by omega)]; omega
  ·exact hexL_ok l c h
theorem parse_hexN (id:List UInt8) (j:Nat) (hj:j<20) (h:id.length=20):outN (hexL id) 40 j=(id.getD j 0).toNat:=by
 obtain ⟨h1,h2⟩:=hexL_at id j (by omega)
 have:=(id.getD j 0).toNat_lt
 unfold outN
 rw [if_pos (by omega),h1,h2,dv_dig _ (by omega),dv_dig _ (by omega),Int.toNat_natCast,Int.toNat_natCast]
 omega
theorem parse_hex (id:List UInt8) (h:id.length=20):outL (hexL id) 40=id:=by
 apply List.ext_getElem?
 intro j
 unfold outL
 by_cases hj:j<20
 ·rw [List.getElem?_map,List.getElem?_range hj,Option.map_some,parse_hexN id j hj h,UInt8.ofNat_toNat,List.getD_eq_getElem?_getD,List.getElem?_eq_getElem (by omega)]
  rfl
 ·rw [List.getElem?_eq_none (by simp; omega),List.getElem?_eq_none (by omega)]
theorem outL_length (s:List UInt8) (i:Nat):(outL s i).length=20:=by unfold outL; simp
theorem outL_at (s:List UInt8) (i j:Nat) (h:j<20):((outL s i).getD j 0).toNat=outN s i j:=by
 have:=outN_lt s i j
 unfold outL
 rw [List.getD_eq_getElem?_getD,List.getElem?_map,List.getElem?_range h]
 simp
 omega
theorem hex_parse (s:List UInt8) (h:s.length=40) (hv:∀ c∈s,0≤dv c):hexL (outL s 40)=s:=by
 have hat:∀ n,n<40→0≤dv (s.getD n 0):=fun n hn=>hv _ (by
  rw [List.getD_eq_getElem?_getD,List.getElem?_eq_getElem (by omega)]; exact List.getElem_mem _)
 have key:∀ n,n<40→(hexL (outL s 40)).getD n 0=s.getD n 0:=by
  intro n hn
  obtain ⟨h1,h2⟩:=hexL_at (outL s 40) (n / 2) (by rw [outL_length]; omega)
  rw [outL_at s 40 (n / 2) (by omega)] at h1 h2
  have hd:outN s 40 (n / 2)=16 * (dv (s.getD (2 * (n / 2)) 0)).toNat+(dv (s.getD (2 * (n / 2)+1) 0)).toNat:=by
   unfold outN; rw [if_pos (by omega)]
  have l1:=dv_lt (s.getD (2 * (n / 2)) 0)
  have l2:=dv_lt (s.getD (2 * (n / 2)+1) 0)
  rcases (show n=2 * (n / 2)∨n=2 * (n / 2)+1 by omega) with e | e
  ·have e1:outN s 40 (n / 2) / 16=(dv (s.getD (2 * (n / 2)) 0)).toNat:=by omega
   rw [e1,dig_dv _ (hat _ (by omega)),← e] at h1
   exact h1
  ·have e1:outN s 40 (n / 2) % 16=(dv (s.getD (2 * (n / 2)+1) 0)).toNat:=by omega
   rw [e1,dig_dv _ (hat _ (by omega)),← e] at h2
   exact h2
 apply List.ext_getElem?
 intro n
 by_cases hn:n<40
 ·have:=key n hn
  rw [List.getD_eq_getElem?_getD,List.getD_eq_getElem?_getD,List.getElem?_eq_getElem (by rw [hexL_length,outL_length]; omega),List.getElem?_eq_getElem (by omega)] at this
  rw [List.getElem?_eq_getElem (by rw [hexL_length,outL_length]; omega),List.getElem?_eq_getElem (by omega)]
  simpa using this
 ·rw [List.getElem?_eq_none (by rw [hexL_length,outL_length]; omega),List.getElem?_eq_none (by omega)]
def b_rprs_0:ACode:=(.seq (.seq (.reg none [oS 16 (.mv (.t 7)),oS 17 (.bin .lss (.t 16) (.c (.int .i64 256)))]) (.cond (.t 17) .skip (.exit 2))) (.seq (.block 3 (.seq (.reg (some [(0,false),(1,false),(2,false),(3,false),(4,false),(5,false),(6,false),(7,true),(8,true),(9,false),(10,false),(11,false),(12,false),(13,false),(14,false),(15,false),(16,false),(17,true),(18,true)]) [oS 20 (.mv (.t 0)),oS 21 (.mv (.t 5)),oS 22 (.bin .mul (.c (.int .i64 2)) (.t 21)),oS 23 (.idxS (.t 20) (.t 22)),oS 24 (.mv (.t 7)),oS 25 (.bin .quo (.t 24) (.c (.int .i64 16))),oS 26 (.call 74 [(.t 25)]),oS 27 (.bin .eql (.t 23) (.t 26)),oS 28 (.mv (.t 27)),oG 29 (.mv (.t 0)) 28,oG 30 (.mv (.t 5)) 28,oG 31 (.bin .mul (.c (.int .i64 2)) (.t 30)) 28,oG 32 (.bin .add (.t 31) (.c (.int .i64 1))) 28,oG 33 (.idxS (.t 29) (.t 32)) 28,oG 34 (.mv (.t 7)) 28,oG 35 (.bin .rem (.t 34) (.c (.int .i64 16))) 28,oG 36 (.call 74 [(.t 35)]) 28,oG 37 (.bin .eql (.t 33) (.t 36)) 28,oS 38 (.pick (.t 28) (.t 37) (.c (.bool false)))]) (.cond (.t 38) (.seq (.reg none [oS 39 (.mv (.t 5)),oS 40 (.mv (.t 7)),oS 41 (.toInt .u8 (.t 40)),oS 42 (.iaA 20 (.t 4) (.t 39)),oN (.st (.one (.int .u8 0)) (.t 42) (.t 41))]) (.reg none [oS 6 (.mv (.c (.bool true)))])) .skip))) (.reg none [oS 18 (.mv (.t 7)),oS 19 (.bin .add (.t 18) (.c (.int .i64 1))),oS 7 (.mv (.t 19))])))
def t_rprs_0:ACode:=(.seq (.reg none [oS 43 (.mv (.t 6)),oS 44 (.un .not (.t 43))]) (.cond (.t 44) (.seq (.reg none [oS 45 (.buildA (List.replicate 20 (.int .u8 0)) []),oN (.st (.arr 20) (.t 2) (.t 45)),oS 3 (.mv (.c (.bool false)))]) .ret) .skip))
def t_rprs_1:ACode:=(.reg none [oS 14 (.mv (.t 5)),oS 15 (.bin .add (.t 14) (.c (.int .i64 1))),oS 5 (.mv (.t 15))])
def b_rprs_1:ACode:=(.seq (.seq (.reg none [oS 12 (.mv (.t 5)),oS 13 (.bin .lss (.t 12) (.c (.int .i64 20)))]) (.cond (.t 13) .skip (.exit 0))) (.seq (.block 1 (.seq (.reg none [oS 6 (.mv (.c (.bool false)))]) (.seq (.seq (.reg none [oS 7 (.mv (.c (.int .i64 0)))]) (.block 2 (.loop b_rprs_0))) t_rprs_0))) t_rprs_1))
def t_rprs_2:ACode:=(.seq (.reg none [oS 46 (.ld (.arr 20) (.t 4)),oN (.st (.arr 20) (.t 2) (.t 46)),oS 3 (.mv (.c (.bool true)))]) .ret)
def c_rprs:ACode:=(.seq (.reg none [oS 2 (.new 22 [(20,(.blob (List.replicate 20 (.int .u8 0))))]),oS 3 (.mv (.c (.bool false)))]) (.seq (.reg none [oS 4 (.new 22 [(20,(.blob (List.replicate 20 (.int .u8 0))))])]) (.seq (.seq (.reg none [oS 8 (.mv (.t 0)),oS 9 (.len none true (.t 8)),oS 10 (.bin .neq (.t 9) (.c (.int .i64 40)))]) (.cond (.t 10) (.seq (.reg none [oS 11 (.ld (.arr 20) (.t 4)),oN (.st (.arr 20) (.t 2) (.t 11)),oS 3 (.mv (.c (.bool false)))]) .ret) .skip)) (.seq (.seq (.reg none [oS 5 (.mv (.c (.int .i64 0)))]) (.block 0 (.loop b_rprs_1))) t_rprs_2))))
def r_rprs:List ARes:=[(.c 2 (.arr 20)),(.t 3)]
theorem s_rprs:slimF Tryz.prog Tryz.f70=some (c_rprs,r_rprs):=by kernel_rfl
abbrev phiD:Phi:=phiL [(74,[],digitS)]
def okP (l:List UInt8) (i:Nat):Prop:=0≤dv (l.getD (2 * i) 0)∧0≤dv (l.getD (2 * i+1) 0)
instance (l:List UInt8) (i:Nat):Decidable (okP l i):=inferInstanceAs (Decidable (_∧_))
def valP (l:List UInt8) (i:Nat):Nat:=16 * (dv (l.getD (2 * i) 0)).toNat+(dv (l.getD (2 * i+1) 0)).toNat
def idV (l:List UInt8) (i:Nat):List Value:=(List.range i).map (fun j=>Value.int .u8 (valP l j:Int)) ++ List.replicate (20 - i) (.int .u8 0)
def idW (l:List UInt8) (i n:Nat):List Value:=(List.range i).map (fun j=>Value.int .u8 (valP l j:Int)) ++ [.int .u8 (if okP l i∧valP l i<n then (valP l i:Int) else 0)] ++ List.replicate (19 - i) (.int .u8 0)
def stP (l:List UInt8) (i n:Nat):St:=⟨[(0,.str l),(2,.ref 0 0 0),(3,.bool false),(4,.ref 1 0 0),(5,.int .i64 (i:Int)),(6,.bool (decide (okP l i∧valP l i<n))),(7,.int .i64 (n:Int))],
 [.cells 22 [(20,.blob (List.replicate 20 (.int .u8 0)))],.cells 22 [(20,.blob (idW l i n))]]⟩
theorem dvN (c:UInt8) (k:Nat) (h:k<16):((c.toNat:Int)=digN (k:Int))↔dv c=(k:Int):=by
 rw [digN_digs ⟨k,h⟩]
 constructor
 ·intro e
  have:c=digs.getD k 0:=UInt8.toNat_inj.1 (Int.ofNat.inj e)
  rw [this]; exact dv_dig k h
 ·intro e
  have:=dig_dv c (by omega)
  rw [e] at this
  simp only [Int.toNat_natCast] at this
  simp only [this]
theorem idW_len (l:List UInt8) (i n:Nat) (h:i<20):(idW l i n).length=20:=by simp [idW]; omega
theorem idW_set (l:List UInt8) (i n:Nat) (v:Value):(idW l i n).set i v=(List.range i).map (fun j=>Value.int .u8 (valP l j:Int)) ++ [v] ++ List.replicate (19 - i) (.int .u8 0):=by
 unfold idW
 rw [List.append_assoc,List.set_append_right _ _ (by simp)]
 simp
theorem rparse_in (l:List UInt8) (i n:Nat) (K:St→Prop) (Q:Exit→St→Prop) (hl:l.length=40) (hi:i<20) (hn:n<256)
  (hK:∀ s',kp [0,2,3,4,5,6,7] 2 s' = some (stP l i (n+1))→K s'):awp phiD 0 b_rprs_0 (thenQ K Q) (stP l i n):=by
 simp only [b_rprs_0,stP,digitS,aIdxS,awp_skip,awp_reg,awp_draw,awp_seq,awp_cond,awp_block,awp_exit,arun_nil,arun_op,arunD_nil,arunD_op,arunD_gt,aq_some,isB_t,isB_f,isB_g,isU_b,ifB_t,thenQ_n,thenQ_x,inQ_n,exD,AOp.isH,keepN,preB,avalP,astep,stV,stE,stC,aval,aeff,Int.toNat_natCast,pt,aBin,aInt,arI,aToInt,aIdxS,aIaA,drp,spl,toV,wrP,St.ev,lk,St.put,St.pin,acall0,acall1,acall2,acall3,bor,bor0,bor1,phiL_at,lentO,okIds,flatC,place,setAll_nil,nodupB,renObj,closeIds,addNew,idsOf,idsObj,posOf,↓reduceIte,reduceEqDiff,reduceSub,Nat.reduceLT,List.map,List.set,List.flatMap_cons,List.flatMap_nil,true_and,and_true,List.length_cons,List.length_nil,reduceAdd,List.nil_append,List.cons_append,List.append_nil,Option.map,mapO,ren,List.getElem?_cons_zero,List.getElem?_cons_succ,List.drop_nil,List.all_nil,List.isEmpty_nil,Bool.and_true,Bool.not_false,List.contains_nil,reduceCtorEq,eq_self,Bool.false_eq_true,Nat.le_refl,and_self]
 have e0:(2 * (i:Int)).toNat=2 * i:=by omega
 have e1:(2 * (i:Int)+1).toNat=2 * i+1:=by omega
 rw [e0,e1,Int.tdiv_eq_ediv_of_nonneg (by omega),Int.tmod_eq_emod_of_nonneg (by omega),idW_len l i n hi,hl]
 have h1:=dvN (l.getD (2 * i) 0) (n / 16) (by omega)
 have h2:=dvN (l.getD (2 * i+1) 0) (n % 16) (by omega)
 rw [show (n:Int) / 16=((n / 16:Nat):Int) by omega,show (n:Int) % 16=((n % 16:Nat):Int) by omega]
 have a1:at8 l (2 * i)=((l.getD (2 * i) 0).toNat:Int):=rfl
 have a2:at8 l (2 * i+1)=((l.getD (2 * i+1) 0).toNat:Int):=rfl
 rw [a1,a2]
 refine ⟨fun _=>?_,fun hf=>absurd (of_decide_eq_false hf) (by omega)⟩
 refine ⟨by simp only [inI]; omega,by omega,⟨by omega,by simp only [inI]; omega⟩,by omega,fun hd=>?_,fun hd=>?_⟩
 ·have hd:=h1.1 (of_decide_eq_true hd)
  refine ⟨by simp only [inI]; omega,by simp only [inI]; omega,by omega,by omega,by omega,fun hg=>?_,fun hg=>?_⟩
  ·have hg:=h2.1 (of_decide_eq_true hg)
   have hok:okP l i:=⟨by rw [hd]; omega,by rw [hg]; omega⟩
   have hv:valP l i=n:=by unfold valP; rw [hd,hg]; simp only [Int.toNat_natCast]; omega
   refine ⟨by omega,hi,by simp only [inI]; omega,hK _ ?_⟩
   rw [wrap8 (by omega) (by omega),idW_set]
   simp only [stP,lk,lentO,renObj,posOf,↓reduceIte,reduceEqDiff,reduceAdd,Option.map,mapO,ren,kp,List.range,List.range.loop,List.getElem?_cons_zero,List.getElem?_cons_succ,reduceCtorEq,eq_self]
   have e:decide (okP l i∧valP l i<n+1)=true:=decide_eq_true ⟨hok,by omega⟩
   rw [e]
   unfold idW
   rw [if_pos (show okP l i∧valP l i<n+1 from ⟨hok,by omega⟩),hv]
   rfl
  ·have hg:¬ dv (l.getD (2 * i+1) 0)=((n % 16:Nat):Int):=fun h=>of_decide_eq_false hg (h2.2 h)
   have key:(okP l i∧valP l i<n+1)↔(okP l i∧valP l i<n):=by
    constructor
    ·rintro ⟨⟨k1,k2⟩,k3⟩
     refine ⟨⟨k1,k2⟩,?_⟩
     have b1:=dv_lt (l.getD (2 * i) 0)
     have b2:=dv_lt (l.getD (2 * i+1) 0)
     unfold valP at k3 ⊢
     clear h1 h2 hK
     generalize dv (l.getD (2 * i) 0)=x at *
     generalize dv (l.getD (2 * i+1) 0)=y at *
     omega
    ·rintro ⟨k1,k3⟩; exact ⟨k1,by omega⟩
   refine ⟨by simp only [inI]; omega,hK _ ?_⟩
   simp only [stP,idW,key,lk,lentO,renObj,posOf,↓reduceIte,reduceEqDiff,reduceAdd,Option.map,mapO,ren,kp,List.range,List.range.loop,List.getElem?_cons_zero,List.getElem?_cons_succ,reduceCtorEq,eq_self]
   rfl
 ·have hd:¬ dv (l.getD (2 * i) 0)=((n / 16:Nat):Int):=fun h=>of_decide_eq_false hd (h1.2 h)
  have key:(okP l i∧valP l i<n+1)↔(okP l i∧valP l i<n):=by
   constructor
   ·rintro ⟨⟨k1,k2⟩,k3⟩
    refine ⟨⟨k1,k2⟩,?_⟩
    have b1:=dv_lt (l.getD (2 * i) 0)
    have b2:=dv_lt (l.getD (2 * i+1) 0)
    unfold valP at k3 ⊢
    clear h1 h2 hK
    generalize dv (l.getD (2 * i) 0)=x at *
    generalize dv (l.getD (2 * i+1) 0)=y at *
    omega
   ·rintro ⟨k1,k3⟩; exact ⟨k1,by omega⟩
  refine ⟨by simp only [inI]; omega,hK _ ?_⟩
  simp only [stP,idW,key,lk,lentO,renObj,posOf,↓reduceIte,reduceEqDiff,reduceAdd,Option.map,mapO,ren,kp,List.range,List.range.loop,List.getElem?_cons_zero,List.getElem?_cons_succ,reduceCtorEq,eq_self]
  rfl
def goodP (l:List UInt8):Bool:=decide (l.length=40) && (List.range 20).all fun i=>decide (okP l i)
def rOut (l:List UInt8):List UInt8:=if goodP l=true then (List.range 20).map (fun j=>UInt8.ofNat (valP l j)) else List.replicate 20 0
theorem valP_lt (l:List UInt8) (j:Nat):valP l j<256:=by
 have b1:=dv_lt (l.getD (2 * j) 0)
 have b2:=dv_lt (l.getD (2 * j+1) 0)
 unfold valP; omega
theorem rOut_U (l:List UInt8):(rOut l).map U=if goodP l=true then idV l 20 else List.replicate 20 (.int .u8 0):=by
 unfold rOut
 split
 ·unfold idV
  rw [List.map_map,Nat.sub_self,List.replicate_zero,List.append_nil]
  refine List.map_congr_left fun j _=>?_
  have:=valP_lt l j
  show Value.int .u8 ((UInt8.ofNat (valP l j)).toNat:Int)=_
  rw [UInt8.toNat_ofNat',Nat.mod_eq_of_lt this]
 ·rfl
def rparseS:Spec:=fun xs hp=>match xs,hp with
 | [.str l],[]=>some ⟨.tup [.blob ((rOut l).map U),.bool (goodP l)],[],l.length≤1000000000⟩
 | _,_=>none
theorem idW_zero (l:List UInt8) (i:Nat) (h:i<20):idW l i 0=idV l i:=by
 unfold idW idV
 rw [if_neg (by omega),show 20 - i=(19 - i)+1 by omega,List.replicate_succ]
 simp
def stQ (l:List UInt8) (i:Nat):St:=⟨[(0,.str l),(2,.ref 0 0 0),(3,.bool false),(4,.ref 1 0 0),(5,.int .i64 (i:Int))],[.cells 22 [(20,.blob (List.replicate 20 (.int .u8 0)))],.cells 22 [(20,.blob (idV l i))]]⟩
theorem rprs_round (l:List UInt8) (i:Nat) (K:St→Prop) (R:Ret) (hl:l.length=40) (hi:i<20) (hR:¬ okP l i→R=⟨.tup [.blob (List.replicate 20 (.int .u8 0)),.bool false],[],R.pre⟩)
  (hK:okP l i→∀ s',kp [0,2,3,4,5] 2 s' = some (stQ l (i+1))→K s'):awp phiD 0 b_rprs_1 (thenQ K (inQ 0 (thenQ (awp phiD 0 t_rprs_2 (retQ r_rprs 0 R)) (retQ r_rprs 0 R)))) (stQ l i):=by
 generalize hQ2:thenQ (awp phiD 0 t_rprs_2 (retQ r_rprs 0 R)) (retQ r_rprs 0 R)=Q2
 have hret:∀ s,Q2 .ret s=finP 0 R s (aret s r_rprs):=by intro s; subst hQ2; rfl
 simp only [b_rprs_1,stQ,awp_skip,awp_reg,awp_seq,awp_cond,awp_block,awp_loop,awp_exit,arun_nil,arun_op,aq_some,ifB_t,thenQ_n,thenQ_x,inQ_x,astep,stV,aval,aBin,aInt,St.ev,lk,St.put,↓reduceIte,reduceEqDiff,true_and,reduceCtorEq,eq_self]
 refine ⟨fun _=>?_,fun hf=>absurd (of_decide_eq_false hf) (by omega)⟩
 refine loop_at [] [0,2,3,4,5,6,7] [0,1] (fun n:Nat=>stP l i n) (fun n=>n≤256) (fun n=>256 - n) 0
  (by simp only [stP,idW_zero l i hi,lk,lentO,renObj,posOf,↓reduceIte,reduceEqDiff,reduceAdd,Option.map,mapO,ren,kpI,ent,nilG,Option.bind,List.getElem?_cons_zero,List.getElem?_cons_succ,reduceCtorEq,eq_self]; simp) (by omega) ⟨rfl,rfl⟩ (fun n hn=>?_)
 by_cases hlt:n<256
 ·exact rparse_in l i n _ _ hl hi hlt fun s' hs' => ⟨n+1,by omega,by omega,hs'⟩
 ·have hn:n=256:=by omega
  subst hn
  have hf:decide (((256:Nat):Int)<256)=false:=rfl
  simp only [b_rprs_0,t_rprs_0,t_rprs_1,stP,hf,hret,r_rprs,awp_skip,awp_reg,awp_seq,awp_cond,awp_exit,awp_ret,arun_nil,arun_op,aq_some,isB_f,isB_g,ifB_t,thenQ_n,thenQ_x,thenQ_r,inQ_n,inQ_r,inQ_x,astep,stV,stE,aval,aeff,aret,ares,aress,AV.isTup,pt,rdP,aBin,aInt,arI,aUn,aLd,pparts,szOk,drp,spl,aBuildA,wrP,St.ev,lk,St.put,lentO,renObj,posOf,↓reduceIte,reduceEqDiff,reduceSub,List.set,true_and,List.length_cons,List.length_nil,reduceAdd,List.append_nil,Option.map,mapO,ren,kp,List.range,List.range.loop,List.getElem?_cons_zero,reduceCtorEq,eq_self,Bool.false_eq_true,Nat.le_refl,List.length_replicate,and_self]
  have hv:valP l i<256:=by
   have b1:=dv_lt (l.getD (2 * i) 0)
   have b2:=dv_lt (l.getD (2 * i+1) 0)
   unfold valP; omega
  by_cases hok:okP l i
  ·have hd:decide (okP l i∧valP l i<256)=true:=decide_eq_true ⟨hok,hv⟩
   rw [hd]
   refine ⟨fun h=>absurd h (by simp),fun _=>⟨by simp only [inI]; omega,hK hok _ ?_⟩⟩
   simp only [stQ,lk,lentO,renObj,posOf,↓reduceIte,reduceEqDiff,reduceAdd,Option.map,mapO,ren,kp,List.range,List.range.loop,List.getElem?_cons_zero,List.getElem?_cons_succ,reduceCtorEq,eq_self]
   have hw:idW l i 256=idV l (i+1):=by
    unfold idW idV
    rw [if_pos ⟨hok,hv⟩,List.range_succ,List.map_append,show 20 - (i+1)=19 - i by omega]
    rfl
   rw [hw]
   rfl
  ·have hd:decide (okP l i∧valP l i<256)=false:=decide_eq_false fun h=>hok h.1
   rw [hd]
   refine ⟨fun _=>?_,fun h=>absurd h (by simp)⟩
   rw [hR hok]
   simp only [renObj,finP,finI,closeIds,addNew,idsOf,List.flatMap_nil,List.flatMap_cons,List.append_nil,List.take_zero,nodupB,posOf,idsObj,List.range,List.range.loop,ren,lentO,mapO,Option.map,and_true]
theorem rparse_ok:FnOk Tryz.prog 70 rparseS:=by
 refine fn_slim Tryz.func70 s_rprs (Φ:=phiD) (phi_cons digit_ok (by kernel_rfl) phi_nil) ?_
 intro xs hp r hs hp'
 unfold rparseS at hs
 split at hs
 ·injection hs with hs; subst hs
  rename_i l
  refine ⟨len_le (by kernel_rfl),?_⟩
  have p1:l.length≤1000000000:=hp'
  clear hp'
  rw [rOut_U]
  obtain ⟨R,hR⟩:∃ R,R=Ret.mk (.tup [.blob (if goodP l=true then idV l 20 else List.replicate 20 (.int .u8 0)),.bool (goodP l)]) [] (l.length≤1000000000):=⟨_,rfl⟩
  rw [← hR]
  simp only [c_rprs,awp_skip,awp_reg,awp_seq,awp_cond,awp_block,awp_loop,awp_ret,arun_nil,arun_op,aq_some,ifB_t,thenQ_n,thenQ_r,retQ_r,astep,stV,stN,stE,aval,anew,aeff,slots,aret,ares,pt,rdP,aBin,aInt,aLd,pparts,AV.isStr,aLen,AV.multi,szOk,drp,spl,wrP,St.ev,lk,St.put,↓reduceIte,Option.isSome_none,Bool.or_true,reduceEqDiff,reduceSub,beq_self_eq_true,List.set,true_and,List.length_cons,List.length_nil,reduceAdd,List.nil_append,List.cons_append,List.append_nil,Option.map,List.getElem?_cons_zero,List.getElem?_cons_succ,reduceCtorEq,eq_self,Nat.le_refl,List.length_replicate]
  refine ⟨fun hc=>?_,fun hc=>?_⟩
  ·have hl:l.length≠40:=by intro h; rw [h] at hc; simp at hc
   have hg:goodP l=false:=by unfold goodP; simp [hl]
   simp only [hR,hg,r_rprs,ares,aress,AV.isTup,pt,rdP,aLd,lk,↓reduceIte,reduceEqDiff,List.getElem?_cons_zero,eq_self,Bool.false_eq_true,and_self]
   simp only [renObj,finP,finI,closeIds,addNew,idsOf,List.flatMap_nil,List.flatMap_cons,List.append_nil,List.take_zero,nodupB,posOf,idsObj,List.range,List.range.loop,ren,lentO,mapO,Option.map,and_true]
  ·have hl:l.length=40:=by
    have:¬ ¬ ((l.length:Int)=40):=by simpa using hc
    omega
   clear hc
   refine loop_at [] [0,2,3,4,5] [0,1] (fun i:Nat=>stQ l i) (fun i=>i≤20∧∀ j,j<i→okP l j) (fun i=>20 - i) 0
    rfl ⟨by omega,fun j hj=>by omega⟩ ⟨rfl,rfl⟩ (fun i hi=>?_)
   obtain ⟨hi20,hal⟩:=hi
   by_cases hlt:i<20
   ·refine rprs_round l i _ R hl hlt (fun hno=>?_) fun hok s' hs' => ⟨i+1,⟨by omega,fun j hj=>?_⟩,by omega,hs'⟩
    ·have hg:goodP l=false:=by
      cases h:goodP l with
      | false=>rfl
      | true =>
       unfold goodP at h
       simp only [Bool.and_eq_true,List.all_eq_true,decide_eq_true_eq] at h
       exact absurd (h.2 i (List.mem_range.2 hlt)) hno
     rw [hR,hg]; rfl
    ·rcases Nat.lt_or_ge j i with h | h
     ·exact hal j h
     ·rw [show j=i by omega]; exact hok
   ·have hi:i=20:=by omega
    subst hi
    have hg:goodP l=true:=by
     unfold goodP
     simp only [Bool.and_eq_true,List.all_eq_true,decide_eq_true_eq]
     exact ⟨hl,fun j hj=>hal j (List.mem_range.1 hj)⟩
    have hf:decide (((20:Nat):Int)<20)=false:=rfl
    simp only [b_rprs_1,t_rprs_2,stQ,hf,r_rprs,hR,hg,awp_reg,awp_seq,awp_cond,awp_exit,awp_ret,arun_nil,arun_op,aq_some,isB_f,isB_g,thenQ_n,thenQ_x,inQ_x,retQ_r,astep,stV,stE,aval,aeff,aret,ares,aress,AV.isTup,pt,rdP,aBin,aInt,aLd,pparts,szOk,drp,spl,wrP,St.ev,lk,St.put,lentO,renObj,posOf,↓reduceIte,reduceEqDiff,reduceSub,List.set,true_and,List.length_cons,List.length_nil,reduceAdd,List.append_nil,Option.map,mapO,ren,kp,List.range,List.range.loop,List.getElem?_cons_zero,List.getElem?_cons_succ,reduceCtorEq,eq_self,Bool.false_eq_true,Nat.le_refl,and_self]
    refine ⟨by simp [idV],?_⟩
    simp only [renObj,finP,finI,closeIds,addNew,idsOf,List.flatMap_nil,List.flatMap_cons,List.append_nil,List.take_zero,nodupB,posOf,idsObj,List.range,List.range.loop,ren,lentO,mapO,Option.map,and_true]
 ·cases hs
theorem goodQ_iff (l:List UInt8):goodQ l=true↔l.length=40∧∀ c∈l,0≤dv c:=by unfold goodQ; simp
theorem goodP_eq (l:List UInt8):goodP l=goodQ l:=by
 rw [Bool.eq_iff_iff,goodQ_iff]
 unfold goodP
 simp only [Bool.and_eq_true,List.all_eq_true,decide_eq_true_eq,List.mem_range]
 constructor
 ·rintro ⟨h1,h2⟩
  refine ⟨h1,fun c hc=>?_⟩
  obtain ⟨n,hn,rfl⟩:=List.getElem_of_mem hc
  have h3:=h2 (n / 2) (by omega)
  have e:∀ k,k<l.length→l.getD k 0=l.getD k 0:=fun _ _=>rfl
  have hg:l.getD n 0=l[n]:=by rw [List.getD_eq_getElem?_getD,List.getElem?_eq_getElem hn]; rfl
  rcases (show n=2 * (n / 2)∨n=2 * (n / 2)+1 by omega) with e | e
  ·have:=h3.1; rw [← e,hg] at this; exact this
  ·have:=h3.2; rw [← e,hg] at this; exact this
 ·rintro ⟨h1,h2⟩
  have hat:∀ n,n<40→0≤dv (l.getD n 0):=fun n hn=>h2 _ (by rw [List.getD_eq_getElem?_getD,List.getElem?_eq_getElem (by omega)]; exact List.getElem_mem _)
  exact ⟨h1,fun x hx=>⟨hat _ (by omega),hat _ (by omega)⟩⟩
theorem rOut_eq (l:List UInt8):rOut l=pOut l:=by
 unfold rOut pOut
 rw [goodP_eq]
 split
 ·unfold outL
  refine List.map_congr_left fun j hj=>?_
  have:=List.mem_range.1 hj
  unfold outN valP
  rw [if_pos (by omega)]
 ·rfl
theorem pOut_len (l:List UInt8):(pOut l).length=20:=by
 unfold pOut
 split
 ·exact outL_length _ _
 ·simp
theorem hex_good (l:List UInt8) (h:l.length=20):goodQ (hexL l)=true:=(goodQ_iff _).2 ⟨by rw [hexL_length,h],hexL_ok l⟩
theorem pOut_hex (l:List UInt8) (h:l.length=20):pOut (hexL l)=l:=by unfold pOut; rw [if_pos (hex_good l h),parse_hex l h]
theorem hex_pOut (l:List UInt8) (h:goodQ l=true):hexL (pOut l)=l:=by
 unfold pOut
 rw [if_pos h]
 exact hex_parse l ((goodQ_iff l).1 h).1 ((goodQ_iff l).1 h).2
end Go.Proofs.YtgaehhechonegaaGreatDoor
