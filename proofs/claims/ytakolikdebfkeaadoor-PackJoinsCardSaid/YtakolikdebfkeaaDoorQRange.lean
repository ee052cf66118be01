import Derived.RangeFuncNested
import Derived.RangeFuncLeaves
import Derived.RangeFuncBound
import Derived.OrdersIn
import Derived.TacticsIn
import Derived.Test.YtakolikdebfkeaaDoorQParse
import Derived.Test.YtakolikdebfkeaaDoorProg
import Derived.Test.YtakolikdebfkeaaDoorQMem
import Derived.LoopIn
import Derived.TacticsInMore
import Derived.BigFrameIn
import Derived.OwnWalkIn
import Derived.Deep.RegionHeld3
import Derived.Lib.AppendZeros
open Nat (reduceDiv reduceMod reduceSub reduceAdd reduceLeDiff reduceEqDiff)
set_option linter.all false
namespace Go.Proofs.YtakolikdebfkeaaDoor
open Go.RowKit
variable {F : Fence} {n : Nat} {P : Program}
def SeqT {α:Type} (F:Fence) (n:Nat) (P:Program) (g:Nat) (lb:Array Value) (encs:α→Array Value) (Step Kp:World→World→Prop) (Nx:List α→α→Prop) (S Sp:List α→Prop) (w:World):Prop :=
 ∀ (l:Nat) (J Jx:List α→World→Prop) (W:World),Below w.heap.size w W→(∀ s A B,J s A→Step A B→J s B)→(∀ s A B,Jx s A→Step A B→Jx s B) →
  (∀ pre x W1,J pre W1→Nx pre x→YieldAt F (n - 1) P l (encs x) W1 fun e W' =>
   (e=.returned (.bool true)∧J (pre ++ [x]) W' ∧ Kp W1 W')∨(e=.returned (.bool false)∧Jx (pre ++ [x]) W')) →
  J [] W →
  CallsIn F n P g (#[.func (.yield l) #[] #[]] ++ lb) W fun e W' => (∃ v,e=.returned v)∧((∃ xs,S xs∧J xs W')∨(∃ pre,Sp pre∧Jx pre W'))
structure Marks (D:Nat) (r:Loop) (W:World):Prop where
 calls:W.heap[D]?=some (.deferred (some []))
 loop:W.heap[D+1]?=some (.loop r)
theorem Marks.lt {D:Nat} {r:Loop} {W:World} (h:Marks D r W):D+1<W.heap.size:=(Array.getElem?_eq_some_iff.1 h.loop).1
theorem Marks.put {D:Nat} {r:Loop} {W:World} (h:Marks D r W) (r' : Loop):Marks D r' (W.putObj (D+1) (.loop r')) :=
 ⟨(World.putObj_heap_other (by omega)).trans h.calls,World.putObj_heap_same h.lt⟩
theorem Marks.kept {D:Nat} {r:Loop} {W W' : World} (h:Marks D r W) (hk:KeepsFrom D W W'):Marks D r W' :=
 ⟨hk.same _ _ (Nat.le_refl _) h.calls rfl,hk.same _ _ (Nat.le_succ _) h.loop rfl⟩
theorem Marks.begun (w:World) (r:Loop):Marks w.heap.size r ((w.alloc (.deferred (some []))).alloc (.loop r)):=by
 have h1:=World.alloc_heap_new w (.deferred (some []))
 have h2:=World.alloc_heap_new (w.alloc (.deferred (some []))) (.loop r)
 rw [World.size_alloc] at h2
 exact ⟨(Below.heap_alloc _ _ _ (by rw [World.size_alloc]; omega)).trans h1,h2⟩
def recOf (fn:FuncId) (a:Act) (ps:Array Tmp) (assign body:Code) (D:Nat) (st:LoopState) (jump:Option Code):Loop :=
 { state:=st,pending:=jump,fn,tmps:=a.tmps,params:=ps,assign,body,defers:=D }
theorem roundPost_left {α:Type} {fn:FuncId} {a:Act} {ps:Array Tmp} {assign body:Code} {D:Nat} {Kp:World→World→Prop} {I:List α→World→Prop} {Ix:Code→List α→World→Prop} {xs:List α} {W:World}
  (hm:Marks D (recOf fn a ps assign body D .busy none) W) {R:Ending→World→Prop}
  (hgo:∀ W',Marks D (recOf fn a ps assign body D .busy none) W' → Kp W W' → I xs W' → R (.returned (.bool true)) (W'.putObj (D+1) (.loop (recOf fn a ps assign body D .ready none))))
  (hout:∀ c W',Marks D (recOf fn a ps assign body D .busy none) W' → Ix c xs W' → R (.returned (.bool false)) (W'.putObj (D+1) (.loop (recOf fn a ps assign body D .done (some c))))) :
  ∀ e a' W',ownPostG D Kp I Ix xs W e a' W' → roundPost P (D+1) R e a' W' := by
 have out:∀ c W',KeepsFrom D W W' → Ix c xs W' → ∃ v w',(Instr.endRound (D+1) (some c)).run P W' = .ok v w' ∧ R (.returned v) w' := fun c W' hk hx =>
  ⟨_,_,run_endRound (some c) (hm.kept hk).loop,hout c W' (hm.kept hk) hx⟩
 intro e a' W' h
 match e,h with
 | .normal,h=>exact ⟨_,_,run_endRound none (hm.kept h.1).loop,hgo W' (hm.kept h.1) h.2.1 h.2.2⟩
 | .ret,h=>exact out _ W' h.1 h.2
 | .exit _,h=>exact out _ W' h.1 h.2
 | .goto _,h=>exact out _ W' h.1 h.2
theorem wpIn_rangeFunc_step {α:Type} {g:Operand} {ps:Array Tmp} {assign body:Code} {Q:Exit→Act→World→Prop} {a:Act} {w:World}
  (hro:F.round=none) (h1:1≤n) {gf:Nat} {lb:Array Value} (hg:a.eval g=.func (.func gf) #[] lb) (hFg:F.fn gf) (eg:∀ args w,(callFunc gf args).run P w=.ok (.enter gf args) w)
  {encs:α→Array Value} {Kp:World→World→Prop} {Step:World→World→Prop} {Nx:List α→α→Prop} {S Sp:List α→Prop} (hseq:SeqT F (n - 1) P gf lb encs Step Kp Nx S Sp w)
  {row0:Option Nat} (hrow0:∀ k,row0=some k→k<w.heap.size) (hStep:∀ A B,Step A B→A.grownBy B row0)
  (hKt:∀ {A B C:World},Kp A B→Kp B C→Kp A C) (hKb:∀ (W:World) (l:Nat) (o o' : Obj),w.heap.size≤l→W.heap[l]?=some o→o.isCells=false→o.isWalk=false→Kp W (W.putObj l o')) (hps:∀ x,(encs x).size=ps.size)
  (I:List α→World→Prop) (Ix:Code→List α→World→Prop) (hI:OwnFrom w.heap.size I) (hIx:∀ c,OwnFrom w.heap.size (Ix c)) (hIs:∀ s A B,I s A→Step A B→I s B) (hIxs:∀ c s A B,Ix c s A→Step A B→Ix c s B) (h0:I [] w) (Ax:α→Act→World→Prop) (hAx:∀ x a',OwnFrom w.heap.size (fun (_:Unit) W=>Ax x a' W))
  (hassign:∀ (l:Nat) (pre:List α) (x:α) (W:World) (K:Act→World→Prop),I pre W→Nx pre x→(∀ a' W',KeepsFrom w.heap.size W W' → Kp W W' → I pre W' → Ax x a' W' → K a' W') →
   assign.wpIn (F.inRound l) (n - 1 - 1) P (Exit.then K (fun _ _ _=>False)) { tmps:=(ps.zip (encs x)).foldl (fun t (p,v)=>t.setIfInBounds p v) a.tmps,defers:=[] } W)
  (hbody:∀ (l:Nat) (pre:List α) (x:α) (a' : Act) (W:World),w.heap.size≤l→(∃ r,W.heap[l]?=some (.loop r))→I pre W→Ax x a' W→Nx pre x→body.wpIn (F.inRound l) (n - 1 - 1) P (ownPostG w.heap.size Kp I Ix (pre ++ [x]) W) a' W)
  (hdone:∀ (D:Nat) (xs:List α) (W:World),w.heap.size≤D→S xs→I xs W→W.heap[D]?=some (.deferred (some []))→Q .normal { a with defers:={ target:=.collected D,args:=#[] } :: a.defers } W)
  (hstop:∀ (D:Nat) (c:Code) (pre:List α) (W:World),w.heap.size≤D→Sp pre→Ix c pre W→W.heap[D]?=some (.deferred (some []))→c.wpIn F n P Q { a with defers:={ target:=.collected D,args:=#[] } :: a.defers } W) :
  (Code.rangeFunc g ps assign body).wpIn F n P Q a w:=by
 refine wpIn_rangeFunc fun fn hfn=>?_
 have hmk:=Marks.begun w (recOf fn a ps assign body w.heap.size .ready none)
 have hst:∀ {A B:World},Step A B→KeepsFrom w.heap.size A B:=fun hs=>KeepsFrom.of_grownBy (hStep _ _ hs) hrow0
 rw [hro]
 have henter:(Instr.enterLoop fn a.tmps ps assign body none).run P w=.ok (w.heap.size+1,[{ target:=.collected w.heap.size,args:=#[] }]) ((w.alloc (.deferred (some []))).alloc (.loop (recOf fn a ps assign body w.heap.size .ready none))):=run_enterLoop_outer fn a.tmps ps assign body
 have hlow:=((Below.refl w.heap.size w).alloc (Nat.le_refl _) (.deferred (some []))).alloc (by rw [World.size_alloc]; omega) (.loop (recOf fn a ps assign body w.heap.size .ready none))
 have hfirst:I [] ((w.alloc (.deferred (some []))).alloc (.loop (recOf fn a ps assign body w.heap.size .ready none))):=hI.alloc _ (hI.alloc _ h0)
 revert henter hmk hlow hfirst
 generalize (w.alloc (.deferred (some []))).alloc (.loop (recOf fn a ps assign body w.heap.size .ready none))=V
 intro hmk henter hlow hfirst
 refine ⟨_,_,V,⟨.fn (.func gf) lb,#[.func (.yield (w.heap.size+1)) #[] #[]]⟩,V,gf,#[.func (.yield (w.heap.size+1)) #[] #[]] ++ lb,V,henter,?_,?_,?_,fun _=>h1,?_⟩
 ·simp only [resolve,hg]
  simp [go_sem]
 ·intro f hf
  simp [Target.leads] at hf
  rw [← hf]; exact hFg
 ·simp [invoke,go_sem,eg]
 refine (hseq (w.heap.size+1) (fun pre W=>Marks w.heap.size (recOf fn a ps assign body w.heap.size .ready none) W∧I pre W)
  (fun pre W=>∃ c,Marks w.heap.size (recOf fn a ps assign body w.heap.size .done (some c)) W∧Ix c pre W) _ hlow
  (fun _ _ _ h hs=>⟨h.1.kept (hst hs),hIs _ _ _ h.2 hs⟩) (fun _ _ _ ⟨c,h⟩ hs=>⟨c,h.1.kept (hst hs),hIxs c _ _ _ h.2 hs⟩) (fun pre x W hJ hx=>?_) ⟨hmk,hfirst⟩).mono ?_
 ·refine ⟨fn,_,assign,body,run_yield hJ.1.loop (hps x),roundIn_of_wpIn hfn (hassign _ pre x W _ hJ.2 hx fun a1 W1 hk1 hp1 hi1 hx1=>?_)⟩
  have m1:=hJ.1.kept hk1
  have m2:Marks w.heap.size (recOf fn a ps assign body w.heap.size .busy none) (W1.putObj (w.heap.size+1) (.loop (recOf fn a ps assign body w.heap.size .busy none))):=m1.put _
  have hp2:Kp W1 (W1.putObj (w.heap.size+1) (.loop (recOf fn a ps assign body w.heap.size .busy none))):=hKb _ _ _ _ (Nat.le_succ _) m1.loop rfl rfl
  refine ⟨_,run_beginRound m1.loop rfl,?_⟩
  refine wpIn_mono (hbody _ pre x a1 _ (Nat.le_succ _) ⟨_,m2.loop⟩ (hI.putObj _ hi1 (Nat.le_succ _) m1.loop rfl) ((hAx x a1).putObj (s:=()) _ hx1 (Nat.le_succ _) m1.loop rfl) hx) ?_
  refine roundPost_left m2 (fun W3 m3 hp3 hi3=>.inl ⟨rfl,⟨m3.put _,hI.putObj _ hi3 (Nat.le_succ _) m3.loop rfl⟩,?_⟩) (fun c W3 m3 hx3=>.inr ⟨rfl,c,m3.put _,(hIx c).putObj _ hx3 (Nat.le_succ _) m3.loop rfl⟩)
  exact hKt (hKt hp1 hp2) (hKt hp3 (hKb _ _ _ _ (Nat.le_succ _) m3.loop rfl rfl))
 ·rintro e W ⟨⟨v,rfl⟩,h⟩
  rcases h with ⟨xs,hS,m,hi⟩ | ⟨pre,hp,c,m,hi⟩
  ·exact ⟨_,_,run_endLoop m.loop (by intro h; cases h),hdone _ xs _ (Nat.le_refl _) hS (hI.putObj _ hi (Nat.le_succ _) m.loop rfl) (m.put _).calls⟩
  ·exact ⟨_,_,run_endLoop m.loop (by intro h; cases h),hstop _ c pre _ (Nat.le_refl _) hp ((hIx c).putObj _ hi (Nat.le_succ _) m.loop rfl) (m.put _).calls⟩
theorem wpIn_rangeFunc_stepA {α:Type} {g:Operand} {ps:Array Tmp} {assign body:Code} {Q:Exit→Act→World→Prop} {a:Act} {w:World} {A:α→Act}
  (hro:F.round=none) (h1:1≤n) {gf:Nat} {lb:Array Value} (hg:a.eval g=.func (.func gf) #[] lb) (hFg:F.fn gf) (eg:∀ args w,(callFunc gf args).run P w=.ok (.enter gf args) w)
  {encs:α→Array Value} {Kp:World→World→Prop} {Step:World→World→Prop} {Nx:List α→α→Prop} {S Sp:List α→Prop} (hseq:SeqT F (n - 1) P gf lb encs Step Kp Nx S Sp w)
  {row0:Option Nat} (hrow0:∀ k,row0=some k→k<w.heap.size) (hStep:∀ A B,Step A B→A.grownBy B row0)
  (hKt:∀ {A B C:World},Kp A B→Kp B C→Kp A C) (hKb:∀ (W:World) (l:Nat) (o o' : Obj),w.heap.size≤l→W.heap[l]?=some o→o.isCells=false→o.isWalk=false→Kp W (W.putObj l o')) (hps:∀ x,(encs x).size=ps.size)
  (I:List α→World→Prop) (hI:OwnFrom w.heap.size I) (hIs:∀ s A B,I s A→Step A B→I s B) (h0:I [] w)
  (hassign:∀ (l:Nat) (pre:List α) (x:α) (W:World) (K:Act→World→Prop),I pre W→Nx pre x→(∀ a',a' = A x→K a' W) →
   assign.wpIn (F.inRound l) (n - 1 - 1) P (Exit.then K (fun _ _ _=>False)) { tmps:=(ps.zip (encs x)).foldl (fun t (p,v)=>t.setIfInBounds p v) a.tmps,defers:=[] } W)
  (hKr:∀ W,Kp W W)
  (hbody:∀ (l:Nat) (pre:List α) (x:α) (W:World),w.heap.size≤l→I pre W→Nx pre x→body.wpIn (F.inRound l) (n - 1 - 1) P (ownPostG w.heap.size Kp I (fun _ _ _=>False) (pre ++ [x]) W) (A x) W)
  (hdone:∀ (D:Nat) (xs:List α) (W:World),w.heap.size≤D→S xs→I xs W→W.heap[D]?=some (.deferred (some []))→Q .normal { a with defers:={ target:=.collected D,args:=#[] } :: a.defers } W) :
  (Code.rangeFunc g ps assign body).wpIn F n P Q a w:=by
 refine wpIn_rangeFunc_step hro h1 hg hFg eg hseq hrow0 hStep hKt hKb hps I (fun _ _ _=>False) hI (fun _ _ _ _ _ h _ _=>h) hIs (fun _ _ _ _ h _=>h) h0 (fun x a' _=>a' = A x) (fun x a' _ _ _ _ h _ _=>h) ?_ ?_ hdone ?_
 ·intro l pre x W K hI hN hK
  exact hassign l pre x W K hI hN fun a' ha=>hK a' W ⟨Nat.le_refl _,fun _ _ _ h _=>h⟩ (hKr W) hI ha
 ·intro l pre x a' W hl _ hI hA hN
  subst hA
  exact hbody l pre x W hl hI hN
 ·intro _ _ _ _ _ _ h _
  exact h.elim
theorem wpIn_rangeFunc_stepB {α:Type} {g:Operand} {s1:Tmp} {assign body:Code} {Q:Exit→Act→World→Prop} {a:Act} {w:World} (s2:Tmp) (v:α→Value)
  (hro:F.round=none) (h1:1≤n) {gf:Nat} {lb:Array Value} (hg:a.eval g=.func (.func gf) #[] lb) (hFg:F.fn gf) (eg:∀ args w,(callFunc gf args).run P w=.ok (.enter gf args) w)
  {Kp:World→World→Prop} {Step:World→World→Prop} {Nx:List α→α→Prop} {S Sp:List α→Prop} (hseq:SeqT F (n - 1) P gf lb (fun x=>#[v x]) Step Kp Nx S Sp w)
  {row0:Option Nat} (hrow0:∀ k,row0=some k→k<w.heap.size) (hStep:∀ A B,Step A B→A.grownBy B row0)
  (hKt:∀ {A B C:World},Kp A B→Kp B C→Kp A C) (hKb:∀ (W:World) (l:Nat) (o o' : Obj),w.heap.size≤l→W.heap[l]?=some o→o.isCells=false→o.isWalk=false→Kp W (W.putObj l o'))
  (I:List α→World→Prop) (hI:OwnFrom w.heap.size I) (hIs:∀ s A B,I s A→Step A B→I s B) (h0:I [] w)
  (hassign:∀ (l:Nat) (pre:List α) (x:α) (W:World) (K:Act→World→Prop),I pre W→Nx pre x→K { tmps:=(a.tmps.setIfInBounds s1 (v x)).setIfInBounds s2 (v x),defers:=[] } W →
   assign.wpIn (F.inRound l) (n - 1 - 1) P (Exit.then K (fun _ _ _=>False)) { tmps:=a.tmps.setIfInBounds s1 (v x),defers:=[] } W)
  (hKr:∀ W,Kp W W)
  (hbody:∀ (l:Nat) (pre:List α) (x:α) (W:World),w.heap.size≤l→I pre W→Nx pre x→body.wpIn (F.inRound l) (n - 1 - 1) P (ownPostG w.heap.size Kp I (fun _ _ _=>False) (pre ++ [x]) W) { tmps:=(a.tmps.setIfInBounds s1 (v x)).setIfInBounds s2 (v x),defers:=[] } W)
  (hdone:∀ (D:Nat) (xs:List α) (W:World),w.heap.size≤D→S xs→I xs W→W.heap[D]?=some (.deferred (some []))→Q .normal { a with defers:={ target:=.collected D,args:=#[] } :: a.defers } W) :
  (Code.rangeFunc g #[s1] assign body).wpIn F n P Q a w :=
 wpIn_rangeFunc_stepA (A:=fun x=>{ tmps:=(a.tmps.setIfInBounds s1 (v x)).setIfInBounds s2 (v x),defers:=[] }) hro h1 hg hFg eg hseq hrow0 hStep hKt hKb (fun _=>rfl) I hI hIs h0
  (fun l pre x W K hI hN hK=>by
   have:=hassign l pre x W K hI hN (hK _ rfl)
   simpa using this) hKr hbody hdone
theorem wide_depth:Fence.wide.depth=none:=rfl
theorem wide_fn (f:FuncId):Fence.wide.fn f=True:=rfl
theorem wp_rangeFunc_step_wide {c:Code} {Q:Exit→Act→World→Prop} {a:Act} {w:World} (h:c.wpIn Fence.wide 5 P Q a w):c.wp P Q a w:=wpIn_wide.1 h
theorem calls_of_wp_marks {f:FuncId} {fn:Func} {c:Code} {args:Array Value} {w:World} {R:Ending→World→Prop} (hf:P.funcs[f]?=some fn) (hb:fn.body=some c)
  (h:c.wp P (bodyPostM Fence.wide 1 P fn R) { tmps:=args ++ Array.replicate (fn.ntmps - args.size) undef,defers:=[] } w):Calls P f args w R :=
 callsIn_wide.1 (callsIn_of_wp_marks hf hb trivial (wpIn_wide.2 h))
end Go.Proofs.YtakolikdebfkeaaDoor
namespace Go.Proofs.YtakolikdebfkeaaDoor
open Go.RowKit
attribute [local go_sem] wide_depth wide_fn
set_option maxHeartbeats 400000 in
theorem chunk_calls (A:Option Addr) (n c:Nat) (w:World) :
  Calls Tryd.prog 66 #[.slice A n c,.int .i64 64] w fun e w' => e=.returned (.func (.func 94) #[] #[.pointer (some ⟨w.heap.size,0,none⟩),.pointer (some ⟨w.heap.size+1,0,none⟩)]) ∧
   (w.alloc (.cells #[.slice A n c] 27)).alloc (.cells #[.int .i64 64] 3)=w' := by
 go_enter Tryd.func66,Tryd.ntmps66
 go_wp2
 go_ret
 exact ⟨rfl,rfl⟩
def chunkV (b o k:Nat):Array Value:=#[.slice (some ⟨b,o+64 * k,none⟩) 64 64]
set_option maxHeartbeats 1000000 in
set_option maxRecDepth 100000 in
theorem chunk_in (w:World) (b o c n gs gn:Nat) (hs:Blk w gs 27 #[.slice (some ⟨b,o,none⟩) (64 * n) c]) (hn:Blk w gn 3 #[.int .i64 64]) (hlc:64 * n≤c) (hc:c≤9223372036854775807) (m:Nat) :
  SeqT Fence.wide m Tryd.prog 94 #[.pointer (some ⟨gs,0,none⟩),.pointer (some ⟨gn,0,none⟩)] (chunkV b o) (fun A B=>A.grownBy B none) (fun W W' => W'.heap[gs]?=W.heap[gs]?∧W'.heap[gn]?=W.heap[gn]?) (fun pre x=>pre=List.range x∧x<n)
   (fun xs=>xs=List.range n) (fun _=>True) w:=by
 intro lp J Jx W hW hJ hJx hY hst
 have hs0:Blk W gs 27 #[.slice (some ⟨b,o,none⟩) (64 * n) c]:=hs.below hW hs.lt
 have hn0:Blk W gn 3 #[.int .i64 64]:=hn.below hW hn.lt
 clear hs hn
 refine callsIn_of_wp Tryd.func94 rfl trivial ?_ rfl
 simp only [Tryd.ntmps94,List.size_toArray,List.length_cons,List.length_nil,reduceAdd,reduceSub,Array.replicate_succ,Array.replicate_zero,List.push_toArray,List.append_toArray,List.nil_append,List.cons_append]
 gi_wp2
 gi_loopw [4] (fun i wr=>∃ k:Nat,k≤n∧i=.int .i64 (64 * (k:Int))∧Blk wr gs 27 #[.slice (some ⟨b,o,none⟩) (64 * n) c]∧Blk wr gn 3 #[.int .i64 64]∧J (List.range k) wr)
  (fun i _=>64 * n - (intOf i).toNat)
 case atStart=>exact ⟨0,Nat.zero_le _,rfl,hs0,hn0,hst⟩
 case round =>
  clear hs0 hn0 hst
  obtain ⟨k,hk,rfl,hs,hn,hj⟩:=hrel
  have c1:wr.cell? ⟨gs,0,none⟩=some (.slice (some ⟨b,o,none⟩) (64 * n) c):=hs.cell 0
  have c2:wr.cell? ⟨gn,0,none⟩=some (.int .i64 64):=hn.cell 0
  by_cases hlt:k<n
  ·have i1:64 * (k:Int)<64 * (n:Int):=by omega
   have i2:(64:Int) * (k:Int)≤((64 * n:Nat):Int):=by omega
   have i3:0≤(64:Int) * (k:Int):=by omega
   have t1:((64:Int) * (k:Int)).toNat=64 * k:=by omega
   have t2:(if (64:Int)<((64 * n - 64 * k:Nat):Int) then (64:Int) else ((64 * n - 64 * k:Nat):Int))=64:=by split <;> omega
   gi_wp2
   refine wpIn_wide.2 ?_
   apply wp_meet
   ·go_region
    all_goals exact ⟨rfl,rfl,rfl⟩
   have hj2:J (List.range k) wr.drew:=hJ _ _ _ hj ⟨rfl,rfl,rfl,Nat.le_refl _,fun _ _ _=>rfl⟩
   obtain ⟨fn,tm,asg,bo,hy,hR⟩:=hY (List.range k) k _ hj2 ⟨rfl,hlt⟩
   unfold chunkV at hy
   have j1:IntKind.i64.wrap (64 * (k:Int)+64)=64 * (k:Int)+64:=IntWalk.i64_in _ (by omega)
   have j2:(64 * (k:Int)+64).toNat=64 * k+64:=by omega
   have j3:64 * (k:Int)+64≤(c:Int):=by omega
   have hcut:cutA (some ⟨b,o,none⟩) (64 * k+64) (64 * k) 1=some ⟨b,o+64 * k,none⟩:=by
    unfold cutA; rw [if_neg (by omega)]; simp [add_spot]
   gi_wp2
   refine hR.mono ?_
   rintro e W3 (⟨rfl,hJ3,hk3,hk4⟩ | ⟨rfl,hJx3⟩)
   ·have hs3:Blk W3 gs 27 #[.slice (some ⟨b,o,none⟩) (64 * n) c]:=hk3.trans hs
    have hn3:Blk W3 gn 3 #[.int .i64 64]:=hk4.trans hn
    have d2:W3.cell? ⟨gn,0,none⟩=some (.int .i64 64):=hn3.cell 0
    rw [← List.range_succ] at hJ3
    gi_wp2
    go_roundw
    case rel=>exact ⟨k+1,by omega,by congr 1,hs3,hn3,hJ3⟩
    case measure=>simp [intOf]; omega
   ·gi_wp2
    refine bodyPost_ret (results_none rfl _ _ _) rfl ?_
    exact ⟨⟨_,rfl⟩,.inr ⟨_,trivial,hJx3⟩⟩
  ·obtain rfl:k=n:=by omega
   gi_wp2
   go_end0
   exact ⟨⟨_,rfl⟩,.inl ⟨_,rfl,hj⟩⟩
end Go.Proofs.YtakolikdebfkeaaDoor
namespace Go.Proofs.YtakolikdebfkeaaDoor
open Go.RowKit
theorem bytC:Byt Tryd.prog 27 5:=⟨Tryd.underlying27,by kernel_rfl⟩
structure BRec where
 A:Option Addr
 c:Nat
 b:List UInt8
def BRec.cell (x:BRec):Value:=.slice x.A x.b.length x.c
def flatR (xs:List BRec):List UInt8:=(xs.map (·.b)).flatten
def RdS (w:World) (A:Option Addr) (xs:List BRec):Prop:=RdR w A (xs.map BRec.cell)∧∀ x∈xs,Rd w x.A x.b
theorem RdS.ext {w w' : World} {A:Option Addr} {xs:List BRec} (h:RdS w A xs) (hb:Below w.heap.size w w'):RdS w' A xs:=⟨h.1.ext hb,fun x hx=>(h.2 x hx).ext hb⟩
theorem RdS.at_ {w:World} {A:Option Addr} {xs:List BRec} (h:RdS w A xs) (hl:0<xs.length):∃ b o,A=some ⟨b,o,none⟩∧b<w.heap.size∧∀ k (hk:k<xs.length),w.cell? ⟨b,o+k,none⟩=some xs[k].cell:=by
 obtain ⟨b,o,e,hb,hc⟩:=h.1.at_ (by simpa using hl)
 exact ⟨b,o,e,hb,fun k hk=>hc k _ (by rw [List.getElem?_map,List.getElem?_eq_getElem hk]; rfl)⟩
theorem flatB_take (xs:List BRec) (k:Nat) (hk:k<xs.length):flatR (xs.take (k+1))=flatR (xs.take k) ++ xs[k].b:=by
 unfold flatR; rw [List.take_succ_eq_append_getElem hk,List.map_append,List.flatten_append]; simp
theorem flatB_le (xs:List BRec) (k:Nat):(flatR (xs.take k)).length≤(flatR xs).length:=by
 have:flatR xs=flatR (xs.take k) ++ flatR (xs.drop k):=by
  unfold flatR; rw [← List.flatten_append,← List.map_append,List.take_append_drop]
 rw [this,List.length_append]; omega
set_option maxRecDepth 20000 in
set_option maxHeartbeats 400000 in
theorem sliceGrow0 (n:Int) (w:World) (h0:0≤n) (hn:n≤140737488355328) :
  Calls Tryd.prog 93 #[.slice none 0 0,.int .i64 n] w fun e w' => ∃ A c,e=.returned (.slice A 0 c)∧Own w' w.heap.size 5 A c []∧Below w.heap.size w w' := by
 obtain ⟨m,rfl⟩:=Int.eq_ofNat_of_zero_le h0
 rcases Nat.eq_zero_or_pos m with hm | hm
 ·subst hm
  go_enter Tryd.func93,Tryd.ntmps93
  go_wp2
  go_ret
  exact ⟨none,0,rfl,Own.nil _ _ _,Below.refl _ _⟩
 ·obtain ⟨i,hi,hz,h1,h2⟩:=info_parts bytC.info
  have hrun:=Lib.run_append_nil_zeros (P:=Tryd.prog) w 27 3 27 5 i _ .i64 .i64 Tryd.underlying27 Tryd.underlying3 hi hz m hm (by omega) (by omega) (by rw [h2]; omega)
  have hg:=grownCap_ge w m 0 5
  have hx:=grownCap_le_maxLen w m 0 5 (by simp only [maxLen]; omega)
  have Hrun:=hide hrun
  clear hrun
  go_enter Tryd.func93,Tryd.ntmps93
  go_wp2_with (at_builtin; refine stopAt ?_)
  refine unstop (Lib.wpList_append_run _ rfl _ _ _ _ rfl _ _ rfl rfl _ _ Hrun.out ?_)
  generalize grownCap w m 0 5=cap at *
  have hx2:(cap:Int)≤9223372036854775807:=by simp only [maxLen] at hx; omega
  have hown:Own (w.drew.alloc (.cells (Builtin.zeroCells (Value.int .u8 0).cells m ++ Builtin.zeroCells (Value.int .u8 0).cells (cap - m)) 5)) w.heap.size 5 (some ⟨w.heap.size,0,none⟩) cap []:=by
   refine ⟨rfl,.inr ⟨w.heap.size,cap,_,rfl,Nat.le_refl _,heap_alloc_new w.drew _,Nat.zero_le _,hx,?_,by simp⟩⟩
   rw [Array.size_append,size_zeroCells,size_zeroCells]
   simp [Value.cells]
   omega
  have hbel:Below w.heap.size w (w.drew.alloc (.cells (Builtin.zeroCells (Value.int .u8 0).cells m ++ Builtin.zeroCells (Value.int .u8 0).cells (cap - m)) 5)):=((Below.refl _ w).drew).alloc (Nat.le_refl _) _
  revert hown hbel
  generalize w.drew.alloc _=w1
  intro hown hbel
  have Ho:=hide hown
  clear hown
  go_wp2
  go_ret
  exact ⟨some ⟨w.heap.size,0,none⟩,cap,rfl,Ho.out,hbel⟩
set_option maxRecDepth 20000 in
set_option maxHeartbeats 1000000 in
theorem sliceConcat (A:Option Addr) (n c:Nat) (xs:List BRec) (w:World) (hn:n=xs.length) (hr:RdS w A xs) (hl:xs.length≤1099511627776) (hb:(flatR xs).length≤1099511627776) :
  Calls Tryd.prog 62 #[.slice A n c] w fun e w' => ∃ A' c',e=.returned (.slice A' (flatR xs).length c')∧Own w' w.heap.size 5 A' c' (flatR xs)∧Below w.heap.size w w' := by
 subst hn
 go_enter Tryd.func62,Tryd.ntmps62
 go_wp2
 go_loop [3,11] (fun s i=>∃ k:Nat,k≤xs.length∧i=.int .i64 k∧s=.int .i64 (flatR (xs.take k)).length) (fun _ i=>xs.length - (intOf i).toNat)
 case atStart=>exact ⟨0,Nat.zero_le _,rfl,rfl⟩
 case round =>
  obtain ⟨k,hk,rfl,rfl⟩:=hrel
  have hle:=flatB_le xs k
  by_cases hlt:k<xs.length
  ·obtain ⟨b,o,rfl,hb1,hc⟩:=hr.at_ (by omega)
   have e1:=hc k hlt
   unfold BRec.cell at e1
   have H1:=hide (flatB_take xs k hlt)
   have h2:=flatB_le xs (k+1)
   rw [H1.out,List.length_append] at h2
   clear hc
   generalize hL:xs[k].b=L at *
   have HL:=hide hL
   clear hL
   have hlen:(0:Int)≤(((flatR (xs.take k)).length:Int))+(L.length:Int):=by omega
   generalize hY:flatR (xs.take k)=Y at *
   have HY:=hide hY
   clear hY
   go_wp2
   go_round
   case rel=>exact ⟨k+1,by omega,by go_num,by rw [H1.out,List.length_append]; go_num⟩
   case measure=>simp [intOf]; omega
  ·have hge:xs.length≤k:=by omega
   have hk2:=hide (show k=xs.length by omega)
   have e1:=hide (show flatR (xs.take k)=flatR xs by rw [List.take_of_length_le hge])
   rw [e1.out]
   clear hle
   go_wp2_with (at_builtin; refine stopAt ?_)
   refine (sliceGrow0 _ _ (by omega) (by omega)).mono ?_
   rintro e w1 ⟨A1,c1,rfl,o1,b1⟩
   have hS:=(Sep.start w).call b1 (x:=.row 5 A1 c1 []) o1
   simp only [List.cons_append,List.nil_append,List.set_cons_zero,List.set_cons_succ,List.map_cons,List.map_nil,List.getD_cons_zero,List.getD_cons_succ,Array.toList] at hS
   clear o1 b1
   go_wp2_with (at_builtin; refine stopAt ?_)
   go_loopw [6,27] (fun s i wr=>∃ k:Nat,k≤xs.length∧i=.int .i64 k∧∃ A' c',s=.slice A' (flatR (xs.take k)).length c' ∧ Sep w.heap.size w wr [.row 5 A' c' (flatR (xs.take k))]) (fun _ i _=>xs.length - (intOf i).toNat)
   case atStart=>exact ⟨0,Nat.zero_le _,rfl,A1,c1,rfl,hS⟩
   case round =>
    clear hS
    obtain ⟨j,hj,rfl,A',c',rfl,hS⟩:=hrel
    have hle:=flatB_le xs j
    by_cases hlt:j<xs.length
    ·have hrw:=hr.ext hS.below
     obtain ⟨b,o,rfl,hb1,hc⟩:=hrw.at_ (by omega)
     have e1:=hc j hlt
     unfold BRec.cell at e1
     have hrd:=hrw.2 xs[j] (List.getElem_mem hlt)
     have H1:=hide (flatB_take xs j hlt)
     have h2:=flatB_le xs (j+1)
     rw [H1.out,List.length_append] at h2
     clear hc hrw
     generalize hL:xs[j].b=L at *
     have HL:=hide hL
     clear hL
     generalize hY:flatR (xs.take j)=Y at *
     have HY:=hide hY
     clear hY
     go_wp2_with (at_builtin; refine stopAt ?_)
     refine unstop (wpList_appS hS 0 bytC rfl rfl rfl hrd rfl rfl rfl rfl (by omega) ?_)
     clear hS
     intro A5 c5 w5 hS
     simp only [List.cons_append,List.nil_append,List.set_cons_zero,List.set_cons_succ,List.map_cons,List.map_nil,List.getD_cons_zero,List.getD_cons_succ,Array.toList] at hS
     go_wp2
     go_roundw
     case rel=>exact ⟨j+1,by omega,by go_num,A5,c5,by rw [H1.out,List.length_append],by rw [H1.out]; exact hS⟩
     case measure=>simp [intOf]; omega
    ·have hge:xs.length≤j:=by omega
     have e2:flatR (xs.take j)=flatR xs:=by rw [List.take_of_length_le hge]
     rw [e2] at hS ⊢
     have ho:=hS.own 0 rfl
     have hbel:=hS.below
     clear hS e2 hle
     go_wp2
     go_ret
     exact ⟨A',c',rfl,ho,hbel⟩
end Go.Proofs.YtakolikdebfkeaaDoor
