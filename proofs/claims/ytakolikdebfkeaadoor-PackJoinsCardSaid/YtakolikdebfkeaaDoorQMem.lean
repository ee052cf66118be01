import Derived.WalkKit
import Derived.WalkSpells
import Derived.Maps.AppendAt
import Derived.Deep.AppendLies
import Derived.Deep.Draws
import Derived.RangeFuncFrom
import Derived.Laws.Rows
import Derived.Laws.Tables
open Nat (reduceDiv reduceMod reduceSub reduceAdd reduceLeDiff reduceEqDiff)
set_option linter.all false
namespace Go.Proofs.YtakolikdebfkeaaDoor
open Go.RowKit
theorem hide {p:Prop} (h:p):Hid p:=h
def Stop (p:Prop):Prop:=p
theorem stopAt {p:Prop} (h:Stop p):p:=h
theorem unstop {p:Prop} (h:p):Stop p:=h
theorem wp_meet {P:Program} {c:Code} {Q:Exit→Act→World→Prop} {a:Act} {w:World} {A1:Act} {W1:World} (h:c.wp P (fun e a' w' => e=.normal∧a' = A1∧w' = W1) a w) (hk:Q .normal A1 W1):c.wp P Q a w :=
 wp_mono h fun _ _ _ ⟨h1,h2,h3⟩=>by subst h1 h2 h3; exact hk
def U (u:UInt8):Value:=.int .u8 (u.toNat:Int)
def at8 (l:List UInt8) (k:Nat):Int:=((l.getD k 0).toNat:Int)
theorem at8_get (l:List UInt8) (k:Nat) (h:k<l.length):U l[k]=.int .u8 (at8 l k):=by
 unfold U at8; simp [List.getD,h]
theorem at8_drop (l:List UInt8) (i k:Nat):at8 (l.drop i) k=at8 l (i+k):=by
 unfold at8; simp [List.getD]
theorem at8_take (l:List UInt8) (i k:Nat) (h:k<i):at8 (l.take i) k=at8 l k:=by
 unfold at8; simp [List.getD,h]
def ablk (A:Option Addr):Option Nat:=A.map (·.block)
def cutA (A:Option Addr) (cap i size:Nat):Option Addr:=if cap=i then A else A.map (·.add (i * size))
theorem addr_add_zero (a:Addr):a.add 0=a:=by unfold Addr.add; simp
theorem cutA_zero (A:Option Addr) (c s:Nat):cutA A c 0 s=A:=by
 unfold cutA
 split
 ·rfl
 ·cases A <;> simp [addr_add_zero]
attribute [go_sem] cutA_zero
theorem cutA_blk (A:Option Addr) (c i s:Nat):ablk (cutA A c i s)=ablk A:=by
 unfold cutA
 split
 ·rfl
 ·cases A with
  | none=>rfl
  | some a=>simp [ablk,Addr.add]; split <;> rfl
def Rd (w:World) (A:Option Addr) (l:List UInt8):Prop :=
 0<l.length→∃ b o,A=some ⟨b,o,none⟩∧∀ k,k<l.length→w.cell? ⟨b,o+k,none⟩=some (.int .u8 (at8 l k))
section
variable {w w' : World} {A : Option Addr} {l : List UInt8}
theorem Rd.at_ (h:Rd w A l) (hl:0<l.length):∃ b o,A=some ⟨b,o,none⟩∧b<w.heap.size∧∀ k,k<l.length→w.cell? ⟨b,o+k,none⟩=some (.int .u8 (at8 l k)):=by
 obtain ⟨b,o,e,hc⟩:=h hl
 exact ⟨b,o,e,World.block_lt_of_cell? w _ (hc 0 hl),hc⟩
theorem Rd.keep (h:Rd w A l) (hk:∀ b o,A=some ⟨b,o,none⟩→b<w.heap.size→w'.heap[b]?=w.heap[b]?):Rd w' A l:=by
 intro hl
 obtain ⟨b,o,e,hb,hc⟩:=h.at_ hl
 refine ⟨b,o,e,fun k hkl=>?_⟩
 rw [World.cell?_of_block (w:=w) (w' := w') (hk b o e hb)]
 exact hc k hkl
theorem Rd.ext (h:Rd w A l) (hb:Below w.heap.size w w'):Rd w' A l:=h.keep fun b _ _ hlt=>hb.block b hlt
theorem add_spot (b o k:Nat):(⟨b,o,none⟩:Addr).add k=⟨b,o+k,none⟩:=by
 unfold Addr.add; split <;> simp_all
theorem Rd.cut (h:Rd w A l) {i j cap:Nat} (hij:i≤j) (hj:j≤l.length) (hc:l.length≤cap) :
  Rd w (cutA A cap i 1) ((l.take j).drop i):=by
 unfold cutA
 rw [Nat.mul_one]
 intro hl
 have hlen:((l.take j).drop i).length=j - i:=by rw [List.length_drop,List.length_take]; omega
 rw [hlen] at hl
 obtain ⟨b,o,rfl,hcell⟩:=h (by omega)
 rw [if_neg (by omega)]
 refine ⟨b,o+i,by simp [add_spot],fun k hk=>?_⟩
 rw [hlen] at hk
 rw [at8_drop,at8_take _ _ _ (by omega),← hcell (i+k) (by omega),Nat.add_assoc]
theorem Rd.part0 {b o i j:Nat} (h:Rd w (some ⟨b,o,none⟩) l) (hij:i≤j) (hj:j≤l.length):Rd w (some ⟨b,o+i,none⟩) ((l.take j).drop i):=by
 have:=h.cut (cap:=l.length+i+1) hij hj (by omega)
 unfold cutA at this
 rw [if_neg (by omega)] at this
 simpa [add_spot] using this
theorem part_len (l:List UInt8) (i j:Nat) (hj:j≤l.length):((l.take j).drop i).length=j - i:=by rw [List.length_drop,List.length_take]; omega
end
def Own (w:World) (base:Nat) (e:TypeId) (A:Option Addr) (c:Nat) (l:List UInt8):Prop :=
 w.ownsRow base e 1 (.slice A l.length c) l.length (l.map U)
section
variable {w w' : World} {base : Nat} {e : TypeId} {A : Option Addr} {c : Nat} {l : List UInt8}
theorem Own.nil (w:World) (base:Nat) (e:TypeId):Own w base e none 0 []:=World.ownsRow_nil w base e 1
theorem Own.rd (h:Own w base e A c l):Rd w A l:=by
 intro hl
 rcases h.2 with ⟨hv,_⟩ | ⟨g,cap,cur,hv,hb,hg,hnc,hm,hsz,htake⟩
 ·injection hv with _ h2
  omega
 ·injection hv with h1 h2 h3
  refine ⟨g,0,h1,fun k hk=>?_⟩
  rw [← at8_get l k hk,Nat.zero_add]
  have hcell:w.cell? ⟨g,k,none⟩=cur[k]?:=cell_of_row w g k cur e (0,0) hg
  rw [hcell]
  have:(cur.toList.take (l.length * 1))[k]?=(l.map U)[k]?:=by rw [htake]
  rw [Nat.mul_one,List.getElem?_take,if_pos hk,List.getElem?_map,List.getElem?_eq_getElem hk] at this
  simpa using this
theorem Own.cap (h:Own w base e A c l):l.length≤c:=by
 rcases h.2 with ⟨hv,h0⟩ | ⟨g,cap,cur,hv,hb,hg,hnc,hm,hsz,htake⟩
 ·omega
 ·injection hv with h1 h2 h3
  omega
theorem Own.cmax (h:Own w base e A c l):c≤9223372036854775807:=by
 rcases h.2 with ⟨hv,h0⟩ | ⟨g,cap,cur,hv,hb,hg,hnc,hm,hsz,htake⟩
 ·injection hv with h1 h2 h3
  omega
 ·injection hv with h1 h2 h3
  simp only [maxLen] at hm
  omega
theorem Own.lt (h:Own w base e A c l):∀ k,ablk A=some k→base≤k∧k<w.heap.size:=by
 intro k hk
 refine World.ownsRow.lt h k ?_
 cases A with
 | none=>simp [ablk] at hk
 | some a=>simpa [ablk,Value.ownBlock] using hk
theorem own_blk (A:Option Addr) (n c:Nat):(Value.slice A n c).ownBlock=ablk A:=by cases A <;> rfl
theorem Own.keep (h:Own w base e A c l) (hk:∀ k,ablk A=some k→k<w.heap.size→w'.heap[k]?=w.heap[k]?):Own w' base e A c l:=by
 refine ⟨h.1,?_⟩
 rcases h.2 with h2 | ⟨g,cap,cur,hv,hb,hg,r⟩
 ·exact .inl h2
 ·refine .inr ⟨g,cap,cur,hv,hb,?_,r⟩
  injection hv with h1 _ _
  rw [hk g (by rw [h1]; rfl) (Array.getElem?_eq_some_iff.1 hg).1]
  exact hg
theorem Own.mono {base' : Nat} (h:Own w base e A c l) (hb:base' ≤ base):Own w base' e A c l:=by
 refine ⟨h.1,?_⟩
 rcases h.2 with h2 | ⟨g,cap,cur,hv,hb2,r⟩
 ·exact .inl h2
 ·exact .inr ⟨g,cap,cur,hv,Nat.le_trans hb hb2,r⟩
end
theorem only_set {a w:World} {g:Nat} (h:a.grownBy w (some g)) {p:Addr} (hp:p.block=g∨a.heap.size≤p.block) (u:Value):a.grownBy (w.setCell p u) (some g) :=
 ⟨h.os,h.tape,h.output,by simpa [World.setCell] using h.size,fun i hi hne=>(Below.heap_setCell w p u i (by
  rintro rfl
  rcases hp with hp | hp
  ·exact hne (by rw [hp])
  ·omega)).trans (h.block i hi hne)⟩
def Blk (w:World) (g:Nat) (t:TypeId) (cs:Array Value):Prop:=w.heap[g]?=some (.cells cs t (0,0))
theorem Blk.lt {w:World} {g:Nat} {t:TypeId} {cs:Array Value} (h:Blk w g t cs):g<w.heap.size:=by
 rcases Nat.lt_or_ge g w.heap.size with hlt | hge
 ·exact hlt
 ·unfold Blk at h; rw [Array.getElem?_eq_none hge] at h; cases h
theorem Blk.cell {w:World} {g:Nat} {t:TypeId} {cs:Array Value} (h:Blk w g t cs) (i:Nat):w.cell? ⟨g,i,none⟩=cs[i]?:=cell_of_row w g i cs t (0,0) h
theorem Blk.frozen {w:World} {g:Nat} {t:TypeId} {cs:Array Value} (h:Blk w g t cs) (i:Nat):w.frozen? ⟨g,i,none⟩=false:=by
 unfold Blk at h; simp [World.frozen?,h]
theorem Blk.new (w:World) (t:TypeId) (cs:Array Value):Blk (w.alloc (.cells cs t)) w.heap.size t cs:=heap_alloc_new w _
theorem Blk.set_ {w:World} {g:Nat} {t:TypeId} {cs:Array Value} (h:Blk w g t cs) (i:Nat) (u:Value):Blk (w.setCell ⟨g,i,none⟩ u) g t (cs.setIfInBounds i u):=by
 unfold Blk at h ⊢
 simp [World.setCell,Array.getElem?_modify,h]
theorem Blk.below {w w' : World} {g B:Nat} {t:TypeId} {cs:Array Value} (h:Blk w g t cs) (hb:Below B w w') (hg:g<B):Blk w' g t cs:=(hb.block g hg).trans h
structure Byt (P:Program) (t e:TypeId):Prop where
 under:P.underlying t=some (.slice e)
 info:(P.info? e).map (fun i=>(i.zero,i.size,i.bytes))=some (some (.int .u8 0),1,1)
def byteOf (x:Int):UInt8:=UInt8.ofNat x.toNat
theorem byteOf_nat (x:Int) (h0:0≤x) (h1:x≤255):((byteOf x).toNat:Int)=x:=by
 unfold byteOf; simp; omega
theorem U_byteOf (x:Int) (h0:0≤x) (h1:x≤255):U (byteOf x)=.int .u8 x:=by unfold U; rw [byteOf_nat x h0 h1]
theorem Own.one (w:World) {base:Nat} (e:TypeId) (x:Int) (h0:0≤x) (h1:x≤255) (hb:base≤w.heap.size) :
  Own (w.alloc (.cells #[.int .u8 x] e)) base e (some ⟨w.heap.size,0,none⟩) 1 [byteOf x]:=by
 refine ⟨by simp,.inr ⟨w.heap.size,1,#[.int .u8 x],rfl,hb,heap_alloc_new w _,Nat.le_refl _,by simp [maxLen],rfl,?_⟩⟩
 simp [U_byteOf x h0 h1]
theorem Rd.one (w:World) (e:TypeId) (x:Int) (h0:0≤x) (h1:x≤255):Rd (w.alloc (.cells #[.int .u8 x] e)) (some ⟨w.heap.size,0,none⟩) [byteOf x] :=
 (Own.one (base:=0) w e x h0 h1 (Nat.zero_le _)).rd
theorem U_one (l:List UInt8):∀ u∈l.map U,u.oneCell' = true:=by
 intro u hu
 obtain ⟨_,_,rfl⟩:=List.mem_map.1 hu
 rfl
section
variable {P : Program} (w : World)
theorem run_app {t e:TypeId} (hB:Byt P t e) (ty:TypeId) {base:Nat} {A:Option Addr} {c:Nat} {l:List UInt8} (hown:Own w base e A c l)
  {A2:Option Addr} {c2:Nat} {l2:List UInt8} (hr:Rd w A2 l2) (hb:l.length+l2.length≤140737488355328) (hbase:base≤w.heap.size) :
  ∃ A' c' w',(Builtin.append_ #[t,t] ty #[.slice A l.length c,.slice A2 l2.length c2]).run P w=.ok (.slice A' (l ++ l2).length c') w' ∧ Own w' base e A' c' (l ++ l2)∧w.grownBy w' (ablk A) ∧
   (ablk A' = ablk A∨ablk A' = some w.heap.size):=by
 obtain ⟨i,hi,hz,h1,h2⟩:=info_parts hB.info
 rcases Nat.eq_zero_or_pos l2.length with h0 | h0
 ·have:l2=[]:=List.eq_nil_of_length_eq_zero h0
  subst this
  rcases A2 with _ | ad
  ·refine ⟨A,c,w,?_,by simpa using hown,World.grownBy.refl w _,.inl rfl⟩
   simp only [List.append_nil,List.length_nil]
   rcases hown.2 with ⟨hv,hn⟩ | ⟨g,cap,cur,hv,_,_,hnc,_⟩
   ·rw [hv]
    simp [Builtin.append_,run_underlying hB.under,sizeOf,typeInfo,hi,Builtin.lenOf,Builtin.firstCells]
   ·rw [hv]
    simp [Builtin.append_,run_underlying hB.under,sizeOf,typeInfo,hi,Builtin.lenOf,Builtin.firstCells,hnc,storeCells]
  ·obtain ⟨v',w',hrun,ho,hg,_,h5⟩:=run_append_own_at (P:=P) w base t ty e i (.int .u8 0) 1 1 hB.under hi hz h1 h2 rfl (by omega) _ l.length _ hown ad 0 c2 [] rfl (by simp) (by simp) (by simp only [maxLen]; omega) (by omega) hbase
   obtain ⟨A',c',rfl⟩:∃ A' c',v' = .slice A' l.length c' := by
    rcases ho.2 with ⟨hv,hn⟩ | ⟨g,cap,cur,hv,_⟩
    ·exact ⟨none,0,by rw [hv,show l.length=0 by omega]⟩
    ·exact ⟨_,_,hv⟩
   refine ⟨A',c',w',by simpa using hrun,?_,by simpa [own_blk] using hg,by simpa [own_blk] using h5⟩
   simpa [Own] using ho
 ·obtain ⟨b,o,rfl,hcell⟩:=hr h0
  obtain ⟨v',w',hrun,ho,hg,_,h5⟩:=run_append_own_at (P:=P) w base t ty e i (.int .u8 0) 1 1 hB.under hi hz h1 h2 rfl (by omega) _ l.length _ hown ⟨b,o,none⟩ l2.length c2 (l2.map U) (by simp)
   (by
    intro j u hj
    rw [List.getElem?_map] at hj
    have hjl:j<l2.length:=by
     rcases Nat.lt_or_ge j l2.length with h | h
     ·exact h
     ·rw [List.getElem?_eq_none h] at hj; cases hj
    rw [List.getElem?_eq_getElem hjl] at hj
    rw [add_spot,hcell j hjl,← at8_get l2 j hjl]
    simpa using hj)
   (U_one l2) (by simp only [maxLen]; omega) (by omega) hbase
  obtain ⟨A',c',rfl⟩:∃ A' c',v' = .slice A' (l.length+l2.length) c' := by
   rcases ho.2 with ⟨hv,hn⟩ | ⟨g,cap,cur,hv,_⟩
   ·exact ⟨none,0,by rw [hv,hn]⟩
   ·exact ⟨_,_,hv⟩
  refine ⟨A',c',w',by simpa using hrun,?_,by simpa [own_blk] using hg,by simpa [own_blk] using h5⟩
  simpa [Own] using ho
theorem wp_app {o:Oper} {a:Act} {K:Act→World→Prop} {Q:Exit→Act→World→Prop} (s x:Operand) {t e:TypeId} (hB:Byt P t e)
  (ho:o.op=.call { callee:=.builtin .append,args:=#[s,x],argTypes:=#[t,t] })
  {A:Option Addr} {n c:Nat} {A2:Option Addr} {n2 c2:Nat} (hs:a.eval s=.slice A n c) (hx:a.eval x=.slice A2 n2 c2)
  {base:Nat} {l l2:List UInt8} (hown:Own w base e A c l) (hr:Rd w A2 l2) (hn:n=l.length) (hn2:n2=l2.length) (hb:l.length+l2.length≤140737488355328) (hbase:base≤w.heap.size)
  (h:∀ A' c' w',Own w' base e A' c' (l ++ l2)→w.grownBy w' (ablk A)→(ablk A' = ablk A∨ablk A' = some w.heap.size)→K (a.put o.dst (.slice A' (l ++ l2).length c')) w'):o.wp P a w K Q:=by
 subst hn hn2
 obtain ⟨A',c',w',hrun,h2,h3,h4⟩:=run_app (P:=P) w hB o.type hown (c2:=c2) hr hb hbase
 unfold Oper.wp execOp
 simp only [ho,resolve,invoke,builtin,Sem.run_bind,Sem.run_pure,Result.andThen_ok,List.map_toArray,List.map_cons,List.map_nil,hs,hx,hrun]
 exact h A' c' w' h2 h3 h4
theorem wpList_app {ops:Array Oper} {rest:List Oper} {o:Oper} {a:Act} {Q:Exit→Act→World→Prop} (hgd:o.guard=none) (s x:Operand) {t e:TypeId} (hB:Byt P t e)
  (ho:o.op=.call { callee:=.builtin .append,args:=#[s,x],argTypes:=#[t,t] })
  {A:Option Addr} {n c:Nat} {A2:Option Addr} {n2 c2:Nat} (hs:a.eval s=.slice A n c) (hx:a.eval x=.slice A2 n2 c2)
  {base:Nat} {l l2:List UInt8} (hown:Own w base e A c l) (hr:Rd w A2 l2) (hn:n=l.length) (hn2:n2=l2.length) (hb:l.length+l2.length≤140737488355328) (hbase:base≤w.heap.size)
  (h:∀ A' c' w',Own w' base e A' c' (l ++ l2)→w.grownBy w' (ablk A)→(ablk A' = ablk A∨ablk A' = some w.heap.size)→wpList P ops Q rest (a.put o.dst (.slice A' (l ++ l2).length c')) w') :
  wpList P ops Q (o :: rest) a w :=
 wpList_plain hgd fun _ hK=>wp_app w s x hB ho hs hx hown hr hn hn2 hb hbase fun A' c' w' h2 h3 h4=>hK _ _ (h A' c' w' h2 h3 h4)
end
structure RowT (P:Program) (t e:TypeId) (z:Value) (size bytes:Nat):Prop where
 under:P.underlying t=some (.slice e)
 info:(P.info? e).map (fun i=>(i.zero,i.size,i.bytes))=some (some z,size,bytes)
 zs:z.cells.size=size
 pos:0<size
def RdR (w:World) (A:Option Addr) (xs:List Value):Prop :=
 0<xs.length→∃ b o,A=some ⟨b,o,none⟩∧∀ j u,xs[j]?=some u→w.cell? ⟨b,o+j,none⟩=some u
theorem RdR.at_ {w:World} {A:Option Addr} {xs:List Value} (h:RdR w A xs) (hl:0<xs.length):∃ b o,A=some ⟨b,o,none⟩∧b<w.heap.size∧∀ j u,xs[j]?=some u→w.cell? ⟨b,o+j,none⟩=some u:=by
 obtain ⟨b,o,e,hc⟩:=h hl
 exact ⟨b,o,e,World.block_lt_of_cell? w _ (hc 0 _ (List.getElem?_eq_getElem hl)),hc⟩
theorem RdR.keep {w w' : World} {A:Option Addr} {xs:List Value} (h:RdR w A xs) (hk:∀ b o,A=some ⟨b,o,none⟩→b<w.heap.size→w'.heap[b]?=w.heap[b]?):RdR w' A xs:=by
 intro hl
 obtain ⟨b,o,e,hb,hc⟩:=h.at_ hl
 refine ⟨b,o,e,fun j u hj=>?_⟩
 rw [World.cell?_of_block (w:=w) (w' := w') (hk b o e hb)]
 exact hc j u hj
theorem RdR.ext {w w' : World} {A:Option Addr} {xs:List Value} (h:RdR w A xs) (hb:Below w.heap.size w w'):RdR w' A xs:=h.keep fun b _ _ hlt=>hb.block b hlt
def OwnR (w:World) (base:Nat) (e:TypeId) (size:Nat) (A:Option Addr) (n c:Nat) (xs:List Value):Prop:=w.ownsRow base e size (.slice A n c) n xs
section
variable {w w' : World} {base : Nat} {e : TypeId} {size : Nat} {A : Option Addr} {n c : Nat} {xs : List Value}
theorem OwnR.lt (h:OwnR w base e size A n c xs):∀ k,ablk A=some k→base≤k∧k<w.heap.size:=by
 intro k hk
 refine World.ownsRow.lt h k ?_
 rw [own_blk]; exact hk
theorem OwnR.keep (h:OwnR w base e size A n c xs) (hk:∀ k,ablk A=some k→k<w.heap.size→w'.heap[k]?=w.heap[k]?):OwnR w' base e size A n c xs:=by
 refine ⟨h.1,?_⟩
 rcases h.2 with h2 | ⟨g,cap,cur,hv,hb,hg,r⟩
 ·exact .inl h2
 ·refine .inr ⟨g,cap,cur,hv,hb,?_,r⟩
  injection hv with h1 _ _
  rw [hk g (by rw [h1]; rfl) (Array.getElem?_eq_some_iff.1 hg).1]
  exact hg
theorem OwnR.blk (h:OwnR w base e size A n c xs):∀ k,ablk A=some k→∃ cur,Blk w k e cur:=by
 intro k hk
 rcases h.2 with ⟨hv,_⟩ | ⟨g,cap,cur,hv,hb,hg,_⟩
 ·injection hv with h1; rw [h1] at hk; cases hk
 ·injection hv with h1; rw [h1] at hk; cases hk; exact ⟨cur,hg⟩
end
theorem Own.blk {W:World} {base:Nat} {e:TypeId} {A:Option Addr} {c:Nat} {l:List UInt8} (h:Own W base e A c l):∀ k,ablk A=some k→∃ cur,Blk W k e cur:=by
 intro k hk
 rcases h.2 with ⟨hv,_⟩ | ⟨g,cap,cur,hv,hb,hg,_⟩
 ·injection hv with h1; rw [h1] at hk; cases hk
 ·injection hv with h1; rw [h1] at hk; cases hk; exact ⟨cur,hg⟩
section
variable {P : Program} (w : World)
theorem run_str {src e:TypeId} (hs:P.underlying src=some (.slice e)) (he:P.underlying e=some (.int .u8)) {A:Option Addr} {n c:Nat} {l:List UInt8} (hr:Rd w A l) (hn:n=l.length) {dst:TypeId} (hd:P.underlying dst=some .string) :
  (convert src dst (.slice A n c)).run P w=.ok (.string ⟨l.toArray⟩) w:=by
 subst hn
 rcases Nat.eq_zero_or_pos l.length with h0 | h0
 ·have:l=[]:=List.eq_nil_of_length_eq_zero h0
  subst this
  cases A with
  | none=>rw [run_convert_bytes_nil w src e hs he _ _ dst hd]; rfl
  | some a =>
   rw [List.length_nil,run_convert_bytes_string w src dst e _ _ c hs he hd,run_bytesToString w a 0 c [] (by simpa using run_loadCells_list (P:=P) w a [] (by simp))]
   rfl
 ·obtain ⟨b,o,rfl,hcell⟩:=hr h0
  rw [run_convert_bytes_arg w src e hs he b o l.length c (l.map fun u=>(u.toNat:Int)) (by simp) (fun i hi=>by
   rw [hcell i hi,← at8_get l i hi]
   simp [U,List.getD,hi]) dst hd]
  simp [strOfNums,Function.comp_def]
end
end Go.Proofs.YtakolikdebfkeaaDoor
namespace Go.Proofs.YtakolikdebfkeaaDoor
open Go.RowKit
theorem bytes_cat (a b:List UInt8):(⟨a.toArray⟩:ByteArray) ++ (⟨b.toArray⟩:ByteArray)=⟨(a ++ b).toArray⟩:=by
 apply ByteArray.ext; simp
inductive It where
 | row (e:TypeId) (A:Option Addr) (c:Nat) (l:List UInt8)
 | rowR (e:TypeId) (size:Nat) (A:Option Addr) (n c:Nat) (xs:List Value)
 | blk (g:Nat) (t:TypeId) (cs:Array Value)
 | obj (g:Nat) (o:Obj)
 | gone
def It.block:It→Option Nat
 | .row _ A _ _=>ablk A
 | .rowR _ _ A _ _ _=>ablk A
 | .blk g _ _=>some g
 | .obj g _=>some g
 | .gone=>none
def It.ok (B:Nat) (w:World):It→Prop
 | .row e A c l=>Own w B e A c l
 | .rowR e s A n c xs=>OwnR w B e s A n c xs
 | .blk g t cs=>B≤g∧Blk w g t cs
 | .obj g o=>B≤g∧w.heap[g]?=some o
 | .gone=>True
theorem It.ok.lt {B:Nat} {w:World}:∀ {x:It},x.ok B w→∀ k,x.block=some k→B≤k∧k<w.heap.size
 | .row _ _ _ _,h,k,hk=>Own.lt h k hk
 | .rowR _ _ _ _ _ _,h,k,hk=>OwnR.lt h k hk
 | .blk _ _ _,h,k,hk=>by cases hk; exact ⟨h.1,h.2.lt⟩
 | .obj _ _,h,k,hk=>by cases hk; exact ⟨h.1,(Array.getElem?_eq_some_iff.1 h.2).1⟩
 | .gone,_,_,hk=>by cases hk
theorem It.ok.keep {B:Nat} {w w' : World}:∀ {x:It},x.ok B w→(∀ k,x.block=some k→k<w.heap.size→w'.heap[k]?=w.heap[k]?)→x.ok B w'
 | .row _ _ _ _,h,hk=>Own.keep h hk
 | .rowR _ _ _ _ _ _,h,hk=>OwnR.keep h hk
 | .blk g _ _,h,hk=>⟨h.1,(hk g rfl h.2.lt).trans h.2⟩
 | .obj g _,h,hk=>⟨h.1,(hk g rfl (Array.getElem?_eq_some_iff.1 h.2).1).trans h.2⟩
 | .gone,_,_=>trivial
theorem OwnR.mono {w:World} {base base' : Nat} {e:TypeId} {size:Nat} {A:Option Addr} {n c:Nat} {xs:List Value} (h:OwnR w base e size A n c xs) (hb:base' ≤ base):OwnR w base' e size A n c xs:=by
 refine ⟨h.1,?_⟩
 rcases h.2 with h2 | ⟨g,cap,cur,hv,hb2,r⟩
 ·exact .inl h2
 ·exact .inr ⟨g,cap,cur,hv,Nat.le_trans hb hb2,r⟩
theorem It.ok.mono {B B' : Nat} {w:World} (hb:B' ≤ B):∀ {x:It},x.ok B w→x.ok B' w
 | .row _ _ _ _,h=>Own.mono h hb
 | .rowR _ _ _ _ _ _,h=>OwnR.mono h hb
 | .blk _ _ _,h=>⟨Nat.le_trans hb h.1,h.2⟩
 | .obj _ _,h=>⟨Nat.le_trans hb h.1,h.2⟩
 | .gone,_=>trivial
structure Sep (B:Nat) (w0 w:World) (L:List It):Prop where
 below:Below B w0 w
 size:B≤w.heap.size
 ok:∀ (i:Nat) (x:It),L[i]?=some x→x.ok B w
 apart:∀ (i j:Nat) (x y:It),i≠j→L[i]?=some x→L[j]?=some y→∀ k,x.block=some k→y.block≠some k
section
variable {B : Nat} {w0 w w' : World} {L : List It}
theorem Sep.start (w:World):Sep w.heap.size w w [] :=
 ⟨Below.refl _ _,Nat.le_refl _,fun i x h=>by simp at h,fun i j x y _ h=>by simp at h⟩
theorem Sep.ext (h:Sep B w0 w L) (hb:Below w.heap.size w w'):Sep B w0 w' L :=
 ⟨h.below.trans (hb.mono h.size),Nat.le_trans h.size hb.size,fun i x hx=>(h.ok i x hx).keep fun k _ hk=>hb.block k hk,h.apart⟩
theorem Sep.alloc (h:Sep B w0 w L) (o:Obj):Sep B w0 (w.alloc o) L:=h.ext ((Below.refl _ _).alloc (Nat.le_refl _) o)
theorem Sep.push (h:Sep B w0 w L) {x:It} (hx:x.ok B w) (hf:∀ k,x.block=some k→∀ (i:Nat) (y:It),L[i]?=some y→y.block≠some k):Sep B w0 w (L ++ [x]):=by
 have split:∀ (i:Nat) (y:It),(L ++ [x])[i]?=some y→L[i]?=some y∨(i=L.length∧y=x):=by
  intro i y hy
  rcases Nat.lt_or_ge i L.length with hl | hl
  ·rw [List.getElem?_append_left hl] at hy; exact .inl hy
  ·rw [List.getElem?_append_right hl] at hy
   rcases Nat.eq_zero_or_pos (i - L.length) with h0 | h0
   ·rw [h0] at hy; simp at hy; exact .inr ⟨by omega,hy.symm⟩
   ·rw [List.getElem?_eq_none (by simp; omega)] at hy; cases hy
 refine ⟨h.below,h.size,fun i y hy=>?_,fun i j y z hij hy hz k hk=>?_⟩
 ·rcases split i y hy with h1 | ⟨_,rfl⟩
  ·exact h.ok i y h1
  ·exact hx
 ·rcases split i y hy with h1 | ⟨e1,rfl⟩ <;> rcases split j z hz with h2 | ⟨e2,rfl⟩
  ·exact h.apart i j y z hij h1 h2 k hk
  ·exact fun hk2=>hf k hk2 i y h1 hk
  ·exact hf k hk j z h2
  ·omega
theorem Sep.call (h:Sep B w0 w L) (hb:Below w.heap.size w w') {x:It} (hx:x.ok w.heap.size w'):Sep B w0 w' (L ++ [x]) :=
 (h.ext hb).push (hx.mono h.size) fun k hk i y hy hk2=>by
  have h1:=(hx.lt k hk).1
  have h2:=((h.ok i y hy).lt k hk2).2
  omega
theorem Sep.allocC (h:Sep B w0 w L) (cs:Array Value) (t:TypeId):Sep B w0 (w.alloc (.cells cs t)) (L ++ [.blk w.heap.size t cs]) :=
 h.call ((Below.refl _ _).alloc (Nat.le_refl _) _) (x:=.blk w.heap.size t cs) ⟨Nat.le_refl _,Blk.new w t cs⟩
theorem Sep.turn (h:Sep B w0 w L) {i:Nat} {x y:It} (hi:L[i]?=some x) {row:Option Nat} (hg:w.grownBy w' row) (hrow:∀ k,row=some k→x.block=some k) (hy:y.ok B w') (hd:∀ k,y.block=some k→x.block=some k∨w.heap.size≤k) :
  Sep B w0 w' (L.set i y):=by
 have hil:i<L.length:=by
  rcases Nat.lt_or_ge i L.length with h1 | h1
  ·exact h1
  ·rw [List.getElem?_eq_none h1] at hi; cases hi
 have split:∀ (j:Nat) (z:It),(L.set i y)[j]?=some z→(j=i∧z=y)∨(j≠i∧L[j]?=some z):=by
  intro j z hz
  by_cases e:j=i
  ·subst e; rw [List.getElem?_set_self hil] at hz; exact .inl ⟨rfl,by simpa using hz.symm⟩
  ·rw [List.getElem?_set_ne (Ne.symm e)] at hz; exact .inr ⟨e,hz⟩
 have hxo:=h.ok i x hi
 refine ⟨h.below.grown hg h.size (fun k hk=>(hxo.lt k (hrow k hk)).1),Nat.le_trans h.size hg.size,fun j z hz=>?_,fun j j' z z' hjj hz hz' k hk=>?_⟩
 ·rcases split j z hz with ⟨_,rfl⟩ | ⟨e,h1⟩
  ·exact hy
  ·exact (h.ok j z h1).keep fun k hk hlt=>hg.block k hlt fun e2=>h.apart j i z x e h1 hi k hk (hrow k e2.symm)
 ·rcases split j z hz with ⟨e1,rfl⟩ | ⟨e1,h1⟩ <;> rcases split j' z' hz' with ⟨e2,rfl⟩ | ⟨e2,h2⟩
  ·omega
  ·intro hk2
   rcases hd k hk with h3 | h3
   ·exact h.apart i j' x z' (Ne.symm e2) hi h2 k h3 hk2
   ·have:=((h.ok j' z' h2).lt k hk2).2; omega
  ·intro hk2
   rcases hd k hk2 with h3 | h3
   ·exact h.apart j i z x e1 h1 hi k hk h3
   ·have:=((h.ok j z h1).lt k hk).2; omega
  ·exact h.apart j j' z z' hjj h1 h2 k hk
theorem Sep.turned (h:Sep B w0 w L) {i:Nat} {x y:It} (hi:L[i]?=some x) (hg:w.grownBy w' x.block) (hy:y.ok B w') (hd:y.block=x.block∨y.block=some w.heap.size):Sep B w0 w' (L.set i y) :=
 h.turn hi hg (fun _ hk=>hk) hy fun k hk=>by
  rcases hd with e | e
  ·exact .inl (by rw [← e]; exact hk)
  ·rw [hk] at e; injection e with e; exact .inr (by omega)
theorem Sep.store (h:Sep B w0 w L) (i:Nat) {g j:Nat} {t:TypeId} {cs:Array Value} (hi:L[i]?=some (.blk g t cs)) (v:Value):Sep B w0 (w.setCell ⟨g,j,none⟩ v) (L.set i (.blk g t (cs.setIfInBounds j v))) :=
 h.turned hi (only_set (World.grownBy.refl w _) (.inl rfl) v) (y:=.blk g t (cs.setIfInBounds j v)) ⟨(h.ok i _ hi).1,(h.ok i _ hi).2.set_ j v⟩ (.inl rfl)
theorem Sep.pick (h:Sep B w0 w L) (is:List Nat) (hn:is.Nodup):Sep B w0 w (is.map fun i=>L.getD i .gone):=by
 have get:∀ (j:Nat) (x:It),(is.map fun i=>L.getD i .gone)[j]?=some x→∃ i,is[j]?=some i∧x=L.getD i .gone:=by
  intro j x hx
  rw [List.getElem?_map] at hx
  cases hi:is[j]? with
  | none=>rw [hi] at hx; cases hx
  | some i=>rw [hi] at hx; exact ⟨i,rfl,by simpa using hx.symm⟩
 have look:∀ i:Nat,L[i]?=some (L.getD i .gone)∨L.getD i .gone=.gone:=by
  intro i
  rw [List.getD_eq_getElem?_getD]
  cases L[i]? with
  | none=>exact .inr rfl
  | some x=>exact .inl rfl
 refine ⟨h.below,h.size,fun j x hx=>?_,fun j j' x y hjj hx hy k hk hk2=>?_⟩
 ·obtain ⟨i,_,rfl⟩:=get j x hx
  rcases look i with h1 | h1
  ·exact h.ok i _ h1
  ·rw [h1]; trivial
 ·obtain ⟨i,hi,rfl⟩:=get j x hx
  obtain ⟨i',hi',rfl⟩:=get j' y hy
  rcases look i with h1 | h1
  ·rcases look i' with h2 | h2
   ·refine h.apart i i' _ _ ?_ h1 h2 k hk hk2
    rintro rfl
    have hlt:j<is.length:=(List.getElem?_eq_some_iff.1 hi).1
    exact hjj ((List.getElem?_inj hlt hn).1 (hi.trans hi'.symm))
   ·rw [h2] at hk2; cases hk2
  ·rw [h1] at hk; cases hk
theorem Sep.putObj (h:Sep B w0 w L) (i:Nat) {g:Nat} {o:Obj} (hi:L[i]?=some (.obj g o)) (o' : Obj):Sep B w0 (w.putObj g o') (L.set i (.obj g o')) :=
 h.turned hi (grownBy_putObj' w g o') (y:=.obj g o') ⟨(h.ok i _ hi).1,World.putObj_heap_same (Array.getElem?_eq_some_iff.1 (h.ok i _ hi).2).1⟩ (.inl rfl)
theorem Sep.obj (h:Sep B w0 w L) (i:Nat) {g:Nat} {o:Obj} (hi:L[i]?=some (.obj g o)):w.heap[g]?=some o:=(h.ok i _ hi).2
theorem Sep.pushObj (h:Sep B w0 w L) {g:Nat} {o:Obj} (hB:B≤g) (ho:w.heap[g]?=some o) (hf:∀ (i:Nat) (y:It),L[i]?=some y→y.block≠some g):Sep B w0 w (L ++ [.obj g o]) :=
 h.push (x:=.obj g o) ⟨hB,ho⟩ (fun k hk=>by cases hk; exact hf)
def It.cells:It→Bool
 | .obj _ _=>false
 | _=>true
theorem It.ok.isCells {B:Nat} {w:World}:∀ {x:It},x.ok B w→x.cells=true→∀ r (o:Obj),x.block=some r→w.heap[r]?=some o→o.isCells=true
 | .row e A c l,h,_,r,o,hr,ho=>by
  obtain ⟨cur,hb⟩:=Own.blk h r hr
  rw [show w.heap[r]?=_ from hb] at ho; cases ho; rfl
 | .rowR e s A n c xs,h,_,r,o,hr,ho=>by
  obtain ⟨cur,hb⟩:=OwnR.blk h r hr
  rw [show w.heap[r]?=_ from hb] at ho; cases ho; rfl
 | .blk g t cs,h,_,r,o,hr,ho=>by
  cases hr
  rw [show w.heap[g]?=_ from h.2] at ho; cases ho; rfl
 | .gone,_,_,_,_,hr,_=>by cases hr
theorem Sep.others (h:Sep B w0 w L) (hL:L.all It.cells=true) {row:Option Nat} (hg:w.grownBy w' row) (hr:∀ r,row=some r→B≤r∧∃ o:Obj,w.heap[r]?=some o∧o.isCells=false):Sep B w0 w' L:=by
 have hc:∀ (i:Nat) (x:It),L[i]?=some x→x.cells=true:=fun i x hx=>List.all_eq_true.1 hL x (List.mem_of_getElem? hx)
 refine ⟨h.below.grown hg h.size (fun k hk=>(hr k hk).1),Nat.le_trans h.size hg.size,fun i x hx=>(h.ok i x hx).keep fun k hk hlt=>hg.block k hlt fun e=>?_,h.apart⟩
 obtain ⟨_,o,ho,hn⟩:=hr k e.symm
 have:=(h.ok i x hx).isCells (hc i x hx) k o hk ho
 rw [this] at hn; cases hn
theorem Sep.cast {L' : List It} (h:Sep B w0 w L) (e:L=L'):Sep B w0 w L' := e ▸ h
theorem Sep.still (h:Sep B w0 w L) (hg:w.grownBy w' none):Sep B w0 w' L :=
 ⟨h.below.grown hg h.size (fun k hk=>by cases hk),Nat.le_trans h.size hg.size,fun i x hx=>(h.ok i x hx).keep fun k hk hlt=>hg.block k hlt (by simp),h.apart⟩
theorem Sep.own (h:Sep B w0 w L) (i:Nat) {e:TypeId} {A:Option Addr} {c:Nat} {l:List UInt8} (hi:L[i]?=some (.row e A c l)):Own w B e A c l:=h.ok i _ hi
theorem Sep.rd (h:Sep B w0 w L) (i:Nat) {e:TypeId} {A:Option Addr} {c:Nat} {l:List UInt8} (hi:L[i]?=some (.row e A c l)):Rd w A l:=(h.own i hi).rd
theorem Sep.blk (h:Sep B w0 w L) (i:Nat) {g:Nat} {t:TypeId} {cs:Array Value} (hi:L[i]?=some (.blk g t cs)):Blk w g t cs:=(h.ok i _ hi).2
theorem Sep.cell (h:Sep B w0 w L) (i j:Nat) {g:Nat} {t:TypeId} {cs:Array Value} (hi:L[i]?=some (.blk g t cs)) {v:Value} (hv:cs[j]?=some v):w.cell? ⟨g,j,none⟩=some v:=((h.blk i hi).cell j).trans hv
theorem Sep.frozen (h:Sep B w0 w L) (i j:Nat) {g:Nat} {t:TypeId} {cs:Array Value} (hi:L[i]?=some (.blk g t cs)):w.frozen? ⟨g,j,none⟩=false:=(h.blk i hi).frozen j
theorem Sep.ge (h:Sep B w0 w L) (i:Nat) {g:Nat} {t:TypeId} {cs:Array Value} (hi:L[i]?=some (.blk g t cs)):B≤g:=(h.ok i _ hi).1
end
section
variable {P : Program} {B : Nat} {w0 w : World} {L : List It}
theorem wpList_appS (hS:Sep B w0 w L) (i:Nat) {ops:Array Oper} {rest:List Oper} {o:Oper} {a:Act} {Q:Exit→Act→World→Prop} {t e:TypeId} (hB:Byt P t e) {s x:Operand} (hgd:o.guard=none)
  (ho:o.op=.call { callee:=.builtin .append,args:=#[s,x],argTypes:=#[t,t] })
  {A:Option Addr} {n c:Nat} {l:List UInt8} (hi:L[i]?=some (.row e A c l)) {A2:Option Addr} {n2 c2:Nat} {l2:List UInt8} (hr:Rd w A2 l2) (hs:a.eval s=.slice A n c) (hx:a.eval x=.slice A2 n2 c2)
  (hn:n=l.length) (hn2:n2=l2.length) (hb:l.length+l2.length≤140737488355328)
  (h:∀ A' c' w',Sep B w0 w' (L.set i (.row e A' c' (l ++ l2)))→wpList P ops Q rest (a.put o.dst (.slice A' (l ++ l2).length c')) w') :
  wpList P ops Q (o :: rest) a w :=
 wpList_app w hgd s x hB ho hs hx (hS.own i hi) hr hn hn2 hb hS.size fun A' c' w' h1 h2 h3=>h A' c' w' (hS.turned hi h2 h1 h3)
end
section
variable {P : Program} {B : Nat} {w0 w : World} {L : List It}
theorem wp_store_rowS (hS:Sep B w0 w L) (i:Nat) {g:Nat} {t:TypeId} {cs cs' : Array Value} (hi:L[i]?=some (.blk g t cs)) {o:Oper} {a:Act} {K:Act→World→Prop} {Q:Exit→Act→World→Prop} (ty:TypeId) (x y:Operand) (ho:o.op=.store ty x y)
  (hx:a.eval x=.pointer (some ⟨g,0,none⟩)) (hy:a.eval y=.agg cs') (hsz:(P.info? ty).map (·.size)=some cs'.size) (hc:cs.size=cs'.size) (h1:cs'.all (·.oneCell')=true)
  (h:∀ w',Sep B w0 w' (L.set i (.blk g t cs'))→K (a.put o.dst undef) w'):o.wp P a w K Q:=by
 have hb:=hS.blk i hi
 unfold Oper.wp execOp
 simp only [ho,hx,hy,Instr.storeAt,Instr.sureAddr,Sem.run_bind,Sem.run_pure,Result.andThen_ok,run_storeVar_row w g t ty cs cs' hb hsz hc h1]
 refine h _ (hS.turned hi (y:=.blk g t cs') ⟨rfl,rfl,rfl,by simp,fun k hk hne=>setRow_other w g k cs' fun e=>hne (by rw [e]; rfl)⟩ ⟨(hS.ok i _ hi).1,setRow_heap w g cs cs' t (0,0) hb⟩ (.inl rfl))
theorem wpList_store_rowS (hS:Sep B w0 w L) (i:Nat) {g:Nat} {t:TypeId} {cs cs' : Array Value} (hi:L[i]?=some (.blk g t cs)) {ops:Array Oper} {rest:List Oper} {o:Oper} {a:Act} {Q:Exit→Act→World→Prop} (hgd:o.guard=none) (ty:TypeId) (x y:Operand) (ho:o.op=.store ty x y)
  (hx:a.eval x=.pointer (some ⟨g,0,none⟩)) (hy:a.eval y=.agg cs') (hsz:(P.info? ty).map (·.size)=some cs'.size) (hc:cs.size=cs'.size) (h1:cs'.all (·.oneCell')=true)
  (h:∀ w',Sep B w0 w' (L.set i (.blk g t cs'))→wpList P ops Q rest (a.put o.dst undef) w'):wpList P ops Q (o :: rest) a w :=
 wpList_plain hgd fun _ hK=>wp_store_rowS hS i hi ty x y ho hx hy hsz hc h1 fun w' hw=>hK _ _ (h w' hw)
theorem wpList_stopLoad {ops:Array Oper} {Q:Exit→Act→World→Prop} {a:Act} {rest:List Oper} {o:Oper} {ty:TypeId} {x:Operand} (_ho:o.op=.load ty x) (h:Stop (wpList P ops Q (o :: rest) a w)):wpList P ops Q (o :: rest) a w:=h
end
end Go.Proofs.YtakolikdebfkeaaDoor
namespace Go.Proofs.YtakolikdebfkeaaDoor
open Go.RowKit
structure Kept (F:Nat→Prop) (w w' : World):Prop where
 os:w'.os=w.os
 tape:w'.tape=w.tape
 output:w'.output=w.output
 size:w.heap.size≤w'.heap.size
 block:∀ i,i<w.heap.size→¬ F i→w'.heap[i]?=w.heap[i]?
theorem Kept.refl (F:Nat→Prop) (w:World):Kept F w w:=⟨rfl,rfl,rfl,Nat.le_refl _,fun _ _ _=>rfl⟩
theorem Kept.trans {F:Nat→Prop} {a b c:World} (h1:Kept F a b) (h2:Kept F b c):Kept F a c :=
 ⟨h2.os.trans h1.os,h2.tape.trans h1.tape,h2.output.trans h1.output,Nat.le_trans h1.size h2.size,fun i hi hn=>(h2.block i (Nat.lt_of_lt_of_le hi h1.size) hn).trans (h1.block i hi hn)⟩
theorem Kept.of_below {F:Nat→Prop} {a b:World} (h:Below a.heap.size a b):Kept F a b:=⟨h.os,h.tape,h.output,h.size,fun i hi _=>h.block i hi⟩
theorem Kept.of_grown {F:Nat→Prop} {w0 a b:World} {row:Option Nat} (h0:Kept F w0 a) (h:a.grownBy b row) (hr:∀ k,row=some k→F k∨w0.heap.size≤k):Kept F w0 b :=
 ⟨h.os.trans h0.os,h.tape.trans h0.tape,h.output.trans h0.output,Nat.le_trans h0.size h.size,fun i hi hn =>
  (h.block i (Nat.lt_of_lt_of_le hi h0.size) (fun e=>by rcases hr i e.symm with h1 | h1; exact hn h1; omega)).trans (h0.block i hi hn)⟩
theorem Kept.grown {w w' : World} {g:Nat} (h:Kept (fun k=>k=g) w w'):w.grownBy w' (some g):=⟨h.os,h.tape,h.output,h.size,fun i hi hn=>h.block i hi (fun e=>hn (by rw [e]))⟩
structure SepF (F:Nat→Prop) (w0 w:World) (L:List It):Prop where
 kept:Kept F w0 w
 ok:∀ (i:Nat) (x:It),L[i]?=some x→x.ok 0 w
 mine:∀ (i:Nat) (x:It),L[i]?=some x→∀ k,x.block=some k→F k∨w0.heap.size≤k
 apart:∀ (i j:Nat) (x y:It),i≠j→L[i]?=some x→L[j]?=some y→∀ k,x.block=some k→y.block≠some k
section
variable {F : Nat → Prop} {w0 w w' : World} {L : List It}
theorem SepF.start (F:Nat→Prop) (w:World):SepF F w w [] :=
 ⟨Kept.refl _ _,fun i x h=>by simp at h,fun i x h=>by simp at h,fun i j x y _ h=>by simp at h⟩
theorem SepF.size (h:SepF F w0 w L):w0.heap.size≤w.heap.size:=h.kept.size
theorem SepF.ext (h:SepF F w0 w L) (hb:Below w.heap.size w w'):SepF F w0 w' L :=
 ⟨h.kept.trans (Kept.of_below hb),fun i x hx=>(h.ok i x hx).keep fun k _ hk=>hb.block k hk,h.mine,h.apart⟩
theorem SepF.drew (h:SepF F w0 w L):SepF F w0 w.drew L:=h.ext (Below.refl _ _).drew
theorem SepF.push (h:SepF F w0 w L) {x:It} (hx:x.ok 0 w) (hm:∀ k,x.block=some k→F k∨w0.heap.size≤k) (hf:∀ k,x.block=some k→∀ (i:Nat) (y:It),L[i]?=some y→y.block≠some k):SepF F w0 w (L ++ [x]):=by
 have split:∀ (i:Nat) (y:It),(L ++ [x])[i]?=some y→L[i]?=some y∨(i=L.length∧y=x):=by
  intro i y hy
  rcases Nat.lt_or_ge i L.length with hl | hl
  ·rw [List.getElem?_append_left hl] at hy; exact .inl hy
  ·rw [List.getElem?_append_right hl] at hy
   rcases Nat.eq_zero_or_pos (i - L.length) with h0 | h0
   ·rw [h0] at hy; simp at hy; exact .inr ⟨by omega,hy.symm⟩
   ·rw [List.getElem?_eq_none (by simp; omega)] at hy; cases hy
 refine ⟨h.kept,fun i y hy=>?_,fun i y hy=>?_,fun i j y z hij hy hz k hk=>?_⟩
 ·rcases split i y hy with h1 | ⟨_,rfl⟩
  ·exact h.ok i y h1
  ·exact hx
 ·rcases split i y hy with h1 | ⟨_,rfl⟩
  ·exact h.mine i y h1
  ·exact hm
 ·rcases split i y hy with h1 | ⟨e1,rfl⟩ <;> rcases split j z hz with h2 | ⟨e2,rfl⟩
  ·exact h.apart i j y z hij h1 h2 k hk
  ·exact fun hk2=>hf k hk2 i y h1 hk
  ·exact hf k hk j z h2
  ·omega
theorem SepF.old (h:SepF F w0 w L) {g:Nat} {t:TypeId} {cs:Array Value} (hb:Blk w g t cs) (hF:F g) (hf:∀ (i:Nat) (y:It),L[i]?=some y→y.block≠some g):SepF F w0 w (L ++ [.blk g t cs]) :=
 h.push (x:=.blk g t cs) ⟨Nat.zero_le _,hb⟩ (fun k hk=>by cases hk; exact .inl hF) (fun k hk=>by cases hk; exact hf)
theorem SepF.call (h:SepF F w0 w L) (hb:Below w.heap.size w w') {x:It} (hx:x.ok w.heap.size w'):SepF F w0 w' (L ++ [x]) :=
 (h.ext hb).push (hx.mono (Nat.zero_le _)) (fun k hk=>.inr (Nat.le_trans h.size (hx.lt k hk).1)) fun k hk i y hy hk2=>by
  have h1:=(hx.lt k hk).1
  have h2:=((h.ok i y hy).lt k hk2).2
  omega
theorem SepF.allocC (h:SepF F w0 w L) (cs:Array Value) (t:TypeId):SepF F w0 (w.alloc (.cells cs t)) (L ++ [.blk w.heap.size t cs]) :=
 h.call ((Below.refl _ _).alloc (Nat.le_refl _) _) (x:=.blk w.heap.size t cs) ⟨Nat.le_refl _,Blk.new w t cs⟩
theorem SepF.turn (h:SepF F w0 w L) {i:Nat} {x y:It} (hi:L[i]?=some x) {row:Option Nat} (hg:w.grownBy w' row) (hrow:∀ k,row=some k→x.block=some k) (hy:y.ok 0 w') (hd:∀ k,y.block=some k→x.block=some k∨w.heap.size≤k) :
  SepF F w0 w' (L.set i y):=by
 have hil:i<L.length:=by
  rcases Nat.lt_or_ge i L.length with h1 | h1
  ·exact h1
  ·rw [List.getElem?_eq_none h1] at hi; cases hi
 have split:∀ (j:Nat) (z:It),(L.set i y)[j]?=some z→(j=i∧z=y)∨(j≠i∧L[j]?=some z):=by
  intro j z hz
  by_cases e:j=i
  ·subst e; rw [List.getElem?_set_self hil] at hz; exact .inl ⟨rfl,by simpa using hz.symm⟩
  ·rw [List.getElem?_set_ne (Ne.symm e)] at hz; exact .inr ⟨e,hz⟩
 have hxo:=h.ok i x hi
 refine ⟨h.kept.of_grown hg (fun k hk=>h.mine i x hi k (hrow k hk)),fun j z hz=>?_,fun j z hz k hk=>?_,fun j j' z z' hjj hz hz' k hk=>?_⟩
 ·rcases split j z hz with ⟨_,rfl⟩ | ⟨e,h1⟩
  ·exact hy
  ·exact (h.ok j z h1).keep fun k hk hlt=>hg.block k hlt fun e2=>h.apart j i z x e h1 hi k hk (hrow k e2.symm)
 ·rcases split j z hz with ⟨_,rfl⟩ | ⟨e,h1⟩
  ·rcases hd k hk with h3 | h3
   ·exact h.mine i x hi k h3
   ·exact .inr (Nat.le_trans h.size h3)
  ·exact h.mine j z h1 k hk
 ·rcases split j z hz with ⟨e1,rfl⟩ | ⟨e1,h1⟩ <;> rcases split j' z' hz' with ⟨e2,rfl⟩ | ⟨e2,h2⟩
  ·omega
  ·intro hk2
   rcases hd k hk with h3 | h3
   ·exact h.apart i j' x z' (Ne.symm e2) hi h2 k h3 hk2
   ·have:=((h.ok j' z' h2).lt k hk2).2; omega
  ·intro hk2
   rcases hd k hk2 with h3 | h3
   ·exact h.apart j i z x e1 h1 hi k hk h3
   ·have:=((h.ok j z h1).lt k hk).2; omega
  ·exact h.apart j j' z z' hjj h1 h2 k hk
theorem SepF.turned (h:SepF F w0 w L) {i:Nat} {x y:It} (hi:L[i]?=some x) (hg:w.grownBy w' x.block) (hy:y.ok 0 w') (hd:y.block=x.block∨y.block=some w.heap.size):SepF F w0 w' (L.set i y) :=
 h.turn hi hg (fun _ hk=>hk) hy fun k hk=>by
  rcases hd with e | e
  ·exact .inl (by rw [← e]; exact hk)
  ·rw [hk] at e; injection e with e; exact .inr (by omega)
theorem SepF.store (h:SepF F w0 w L) (i:Nat) {g j:Nat} {t:TypeId} {cs:Array Value} (hi:L[i]?=some (.blk g t cs)) (v:Value):SepF F w0 (w.setCell ⟨g,j,none⟩ v) (L.set i (.blk g t (cs.setIfInBounds j v))) :=
 h.turned hi (only_set (World.grownBy.refl w _) (.inl rfl) v) (y:=.blk g t (cs.setIfInBounds j v)) ⟨Nat.zero_le _,(h.ok i _ hi).2.set_ j v⟩ (.inl rfl)
theorem SepF.pick (h:SepF F w0 w L) (is:List Nat) (hn:is.Nodup):SepF F w0 w (is.map fun i=>L.getD i .gone):=by
 have get:∀ (j:Nat) (x:It),(is.map fun i=>L.getD i .gone)[j]?=some x→∃ i,is[j]?=some i∧x=L.getD i .gone:=by
  intro j x hx
  rw [List.getElem?_map] at hx
  cases hi:is[j]? with
  | none=>rw [hi] at hx; cases hx
  | some i=>rw [hi] at hx; exact ⟨i,rfl,by simpa using hx.symm⟩
 have look:∀ i:Nat,L[i]?=some (L.getD i .gone)∨L.getD i .gone=.gone:=by
  intro i
  rw [List.getD_eq_getElem?_getD]
  cases L[i]? with
  | none=>exact .inr rfl
  | some x=>exact .inl rfl
 refine ⟨h.kept,fun j x hx=>?_,fun j x hx k hk=>?_,fun j j' x y hjj hx hy k hk hk2=>?_⟩
 ·obtain ⟨i,_,rfl⟩:=get j x hx
  rcases look i with h1 | h1
  ·exact h.ok i _ h1
  ·rw [h1]; trivial
 ·obtain ⟨i,_,rfl⟩:=get j x hx
  rcases look i with h1 | h1
  ·exact h.mine i _ h1 k hk
  ·rw [h1] at hk; cases hk
 ·obtain ⟨i,hi,rfl⟩:=get j x hx
  obtain ⟨i',hi',rfl⟩:=get j' y hy
  rcases look i with h1 | h1
  ·rcases look i' with h2 | h2
   ·refine h.apart i i' _ _ ?_ h1 h2 k hk hk2
    rintro rfl
    have hlt:j<is.length:=(List.getElem?_eq_some_iff.1 hi).1
    exact hjj ((List.getElem?_inj hlt hn).1 (hi.trans hi'.symm))
   ·rw [h2] at hk2; cases hk2
  ·rw [h1] at hk; cases hk
theorem SepF.blk (h:SepF F w0 w L) (i:Nat) {g:Nat} {t:TypeId} {cs:Array Value} (hi:L[i]?=some (.blk g t cs)):Blk w g t cs:=(h.ok i _ hi).2
theorem SepF.cell (h:SepF F w0 w L) (i j:Nat) {g:Nat} {t:TypeId} {cs:Array Value} (hi:L[i]?=some (.blk g t cs)) {v:Value} (hv:cs[j]?=some v):w.cell? ⟨g,j,none⟩=some v:=((h.blk i hi).cell j).trans hv
theorem SepF.frozen (h:SepF F w0 w L) (i j:Nat) {g:Nat} {t:TypeId} {cs:Array Value} (hi:L[i]?=some (.blk g t cs)):w.frozen? ⟨g,j,none⟩=false:=(h.blk i hi).frozen j
theorem SepF.old_rd (h:SepF F w0 w L) {A:Option Addr} {l:List UInt8} (hr:Rd w0 A l) (hA:∀ k,ablk A=some k→¬ F k):Rd w A l :=
 hr.keep fun b o e hlt=>h.kept.block b hlt (hA b (by rw [e]; rfl))
end
section
variable {P : Program} {F : Nat → Prop} {w0 w : World} {L : List It}
end
end Go.Proofs.YtakolikdebfkeaaDoor
namespace Go.Proofs.YtakolikdebfkeaaDoor
open Go.RowKit
inductive GE where
 | cells (cs:List Value)
 | err (t:TypeId) (l:List UInt8)
def globs:List (Nat × GE):=[(3,.cells ([1,10,100,1000,10000,100000,1000000,10000000,100000000,1000000000,10000000000,100000000000,1000000000000,10000000000000,100000000000000,1000000000000000,10000000000000000,100000000000000000,1000000000000000000,10000000000000000000].map fun z=>.int .u64 z))]
def globInts:List Nat:=[0]
end Go.Proofs.YtakolikdebfkeaaDoor
