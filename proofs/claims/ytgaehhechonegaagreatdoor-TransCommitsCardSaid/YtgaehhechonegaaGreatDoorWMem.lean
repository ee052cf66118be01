import Derived.WalkKit
import Derived.WalkSpells
import Derived.Maps.AppendAt
import Derived.Deep.AppendLies
import Derived.Deep.Draws
import Derived.RangeFuncFrom
import Derived.Laws.Rows
import Derived.Laws.Tables
open Nat (reduceDiv reduceMod reduceSub reduceAdd reduceLeDiff reduceEqDiff)
set_option linter.all false
namespace Go.Proofs.YtgaehhechonegaaGreatDoor
open Go.RowKit
theorem hide {p:Prop} (h:p):Hid p:=h
def Stop (p:Prop):Prop:=p
theorem stopAt {p:Prop} (h:Stop p):p:=h
theorem unstop {p:Prop} (h:p):Stop p:=h
def U (u:UInt8):Value:=.int .u8 (u.toNat:Int)
def at8 (l:List UInt8) (k:Nat):Int:=((l.getD k 0).toNat:Int)
theorem at8_get (l:List UInt8) (k:Nat) (h:k<l.length):U l[k]=.int .u8 (at8 l k):=by
 unfold U at8; simp [List.getD,h]
def ablk (A:Option Addr):Option Nat:=A.map (·.block)
def cutA (A:Option Addr) (cap i size:Nat):Option Addr:=if cap=i then A else A.map (·.add (i * size))
theorem addr_add_zero (a:Addr):a.add 0=a:=by unfold Addr.add; simp
theorem cutA_zero (A:Option Addr) (c s:Nat):cutA A c 0 s=A:=by
 unfold cutA
 split
 ·rfl
 ·cases A <;> simp [addr_add_zero]
attribute [go_sem] cutA_zero
theorem cutA_blk (A:Option Addr) (c i s:Nat):ablk (cutA A c i s)=ablk A:=by
 unfold cutA
 split
 ·rfl
 ·cases A with
  | none=>rfl
  | some a=>simp [ablk,Addr.add]; split <;> rfl
def Rd (w:World) (A:Option Addr) (l:List UInt8):Prop :=
 0<l.length→∃ b o,A=some ⟨b,o,none⟩∧∀ k,k<l.length→w.cell? ⟨b,o+k,none⟩=some (.int .u8 (at8 l k))
section
variable {w w' : World} {A : Option Addr} {l : List UInt8}
theorem add_spot (b o k:Nat):(⟨b,o,none⟩:Addr).add k=⟨b,o+k,none⟩:=by
 unfold Addr.add; split <;> simp_all
end
def Own (w:World) (base:Nat) (e:TypeId) (A:Option Addr) (c:Nat) (l:List UInt8):Prop :=
 w.ownsRow base e 1 (.slice A l.length c) l.length (l.map U)
section
variable {w w' : World} {base : Nat} {e : TypeId} {A : Option Addr} {c : Nat} {l : List UInt8}
theorem Own.lt (h:Own w base e A c l):∀ k,ablk A=some k→base≤k∧k<w.heap.size:=by
 intro k hk
 refine World.ownsRow.lt h k ?_
 cases A with
 | none=>simp [ablk] at hk
 | some a=>simpa [ablk,Value.ownBlock] using hk
theorem own_blk (A:Option Addr) (n c:Nat):(Value.slice A n c).ownBlock=ablk A:=by cases A <;> rfl
theorem Own.keep (h:Own w base e A c l) (hk:∀ k,ablk A=some k→k<w.heap.size→w'.heap[k]?=w.heap[k]?):Own w' base e A c l:=by
 refine ⟨h.1,?_⟩
 rcases h.2 with h2 | ⟨g,cap,cur,hv,hb,hg,r⟩
 ·exact .inl h2
 ·refine .inr ⟨g,cap,cur,hv,hb,?_,r⟩
  injection hv with h1 _ _
  rw [hk g (by rw [h1]; rfl) (Array.getElem?_eq_some_iff.1 hg).1]
  exact hg
theorem Own.mono {base' : Nat} (h:Own w base e A c l) (hb:base' ≤ base):Own w base' e A c l:=by
 refine ⟨h.1,?_⟩
 rcases h.2 with h2 | ⟨g,cap,cur,hv,hb2,r⟩
 ·exact .inl h2
 ·exact .inr ⟨g,cap,cur,hv,Nat.le_trans hb hb2,r⟩
end
theorem only_set {a w:World} {g:Nat} (h:a.grownBy w (some g)) {p:Addr} (hp:p.block=g∨a.heap.size≤p.block) (u:Value):a.grownBy (w.setCell p u) (some g) :=
 ⟨h.os,h.tape,h.output,by simpa [World.setCell] using h.size,fun i hi hne=>(Below.heap_setCell w p u i (by
  rintro rfl
  rcases hp with hp | hp
  ·exact hne (by rw [hp])
  ·omega)).trans (h.block i hi hne)⟩
def Blk (w:World) (g:Nat) (t:TypeId) (cs:Array Value):Prop:=w.heap[g]?=some (.cells cs t (0,0))
theorem Blk.lt {w:World} {g:Nat} {t:TypeId} {cs:Array Value} (h:Blk w g t cs):g<w.heap.size:=by
 rcases Nat.lt_or_ge g w.heap.size with hlt | hge
 ·exact hlt
 ·unfold Blk at h; rw [Array.getElem?_eq_none hge] at h; cases h
theorem Blk.cell {w:World} {g:Nat} {t:TypeId} {cs:Array Value} (h:Blk w g t cs) (i:Nat):w.cell? ⟨g,i,none⟩=cs[i]?:=cell_of_row w g i cs t (0,0) h
theorem Blk.frozen {w:World} {g:Nat} {t:TypeId} {cs:Array Value} (h:Blk w g t cs) (i:Nat):w.frozen? ⟨g,i,none⟩=false:=by
 unfold Blk at h; simp [World.frozen?,h]
theorem Blk.new (w:World) (t:TypeId) (cs:Array Value):Blk (w.alloc (.cells cs t)) w.heap.size t cs:=heap_alloc_new w _
theorem Blk.set_ {w:World} {g:Nat} {t:TypeId} {cs:Array Value} (h:Blk w g t cs) (i:Nat) (u:Value):Blk (w.setCell ⟨g,i,none⟩ u) g t (cs.setIfInBounds i u):=by
 unfold Blk at h ⊢
 simp [World.setCell,Array.getElem?_modify,h]
structure Byt (P:Program) (t e:TypeId):Prop where
 under:P.underlying t=some (.slice e)
 info:(P.info? e).map (fun i=>(i.zero,i.size,i.bytes))=some (some (.int .u8 0),1,1)
def byteOf (x:Int):UInt8:=UInt8.ofNat x.toNat
section
variable {P : Program} (w : World)
end
structure RowT (P:Program) (t e:TypeId) (z:Value) (size bytes:Nat):Prop where
 under:P.underlying t=some (.slice e)
 info:(P.info? e).map (fun i=>(i.zero,i.size,i.bytes))=some (some z,size,bytes)
 zs:z.cells.size=size
 pos:0<size
def OwnR (w:World) (base:Nat) (e:TypeId) (size:Nat) (A:Option Addr) (n c:Nat) (xs:List Value):Prop:=w.ownsRow base e size (.slice A n c) n xs
section
variable {w w' : World} {base : Nat} {e : TypeId} {size : Nat} {A : Option Addr} {n c : Nat} {xs : List Value}
theorem OwnR.lt (h:OwnR w base e size A n c xs):∀ k,ablk A=some k→base≤k∧k<w.heap.size:=by
 intro k hk
 refine World.ownsRow.lt h k ?_
 rw [own_blk]; exact hk
theorem OwnR.keep (h:OwnR w base e size A n c xs) (hk:∀ k,ablk A=some k→k<w.heap.size→w'.heap[k]?=w.heap[k]?):OwnR w' base e size A n c xs:=by
 refine ⟨h.1,?_⟩
 rcases h.2 with h2 | ⟨g,cap,cur,hv,hb,hg,r⟩
 ·exact .inl h2
 ·refine .inr ⟨g,cap,cur,hv,hb,?_,r⟩
  injection hv with h1 _ _
  rw [hk g (by rw [h1]; rfl) (Array.getElem?_eq_some_iff.1 hg).1]
  exact hg
end
section
variable {P : Program} (w : World)
theorem run_str {src e:TypeId} (hs:P.underlying src=some (.slice e)) (he:P.underlying e=some (.int .u8)) {A:Option Addr} {n c:Nat} {l:List UInt8} (hr:Rd w A l) (hn:n=l.length) {dst:TypeId} (hd:P.underlying dst=some .string) :
  (convert src dst (.slice A n c)).run P w=.ok (.string ⟨l.toArray⟩) w:=by
 subst hn
 rcases Nat.eq_zero_or_pos l.length with h0 | h0
 ·have:l=[]:=List.eq_nil_of_length_eq_zero h0
  subst this
  cases A with
  | none=>rw [run_convert_bytes_nil w src e hs he _ _ dst hd]; rfl
  | some a =>
   rw [List.length_nil,run_convert_bytes_string w src dst e _ _ c hs he hd,run_bytesToString w a 0 c [] (by simpa using run_loadCells_list (P:=P) w a [] (by simp))]
   rfl
 ·obtain ⟨b,o,rfl,hcell⟩:=hr h0
  rw [run_convert_bytes_arg w src e hs he b o l.length c (l.map fun u=>(u.toNat:Int)) (by simp) (fun i hi=>by
   rw [hcell i hi,← at8_get l i hi]
   simp [U,List.getD,hi]) dst hd]
  simp [strOfNums,Function.comp_def]
end
theorem belowN {B:Nat} {a w:World} (h:Below B a w) (n:Nat):Below B a (w.drewN n):=⟨h.os,h.tape,h.output,h.size,h.block⟩
end Go.Proofs.YtgaehhechonegaaGreatDoor
namespace Go.Proofs.YtgaehhechonegaaGreatDoor
open Go.RowKit
theorem bytes_cat (a b:List UInt8):(⟨a.toArray⟩:ByteArray) ++ (⟨b.toArray⟩:ByteArray)=⟨(a ++ b).toArray⟩:=by
 apply ByteArray.ext; simp
inductive It where
 | row (e:TypeId) (A:Option Addr) (c:Nat) (l:List UInt8)
 | rowR (e:TypeId) (size:Nat) (A:Option Addr) (n c:Nat) (xs:List Value)
 | blk (g:Nat) (t:TypeId) (cs:Array Value)
 | obj (g:Nat) (o:Obj)
 | gone
def It.block:It→Option Nat
 | .row _ A _ _=>ablk A
 | .rowR _ _ A _ _ _=>ablk A
 | .blk g _ _=>some g
 | .obj g _=>some g
 | .gone=>none
def It.ok (B:Nat) (w:World):It→Prop
 | .row e A c l=>Own w B e A c l
 | .rowR e s A n c xs=>OwnR w B e s A n c xs
 | .blk g t cs=>B≤g∧Blk w g t cs
 | .obj g o=>B≤g∧w.heap[g]?=some o
 | .gone=>True
theorem It.ok.lt {B:Nat} {w:World}:∀ {x:It},x.ok B w→∀ k,x.block=some k→B≤k∧k<w.heap.size
 | .row _ _ _ _,h,k,hk=>Own.lt h k hk
 | .rowR _ _ _ _ _ _,h,k,hk=>OwnR.lt h k hk
 | .blk _ _ _,h,k,hk=>by cases hk; exact ⟨h.1,h.2.lt⟩
 | .obj _ _,h,k,hk=>by cases hk; exact ⟨h.1,(Array.getElem?_eq_some_iff.1 h.2).1⟩
 | .gone,_,_,hk=>by cases hk
theorem It.ok.keep {B:Nat} {w w' : World}:∀ {x:It},x.ok B w→(∀ k,x.block=some k→k<w.heap.size→w'.heap[k]?=w.heap[k]?)→x.ok B w'
 | .row _ _ _ _,h,hk=>Own.keep h hk
 | .rowR _ _ _ _ _ _,h,hk=>OwnR.keep h hk
 | .blk g _ _,h,hk=>⟨h.1,(hk g rfl h.2.lt).trans h.2⟩
 | .obj g _,h,hk=>⟨h.1,(hk g rfl (Array.getElem?_eq_some_iff.1 h.2).1).trans h.2⟩
 | .gone,_,_=>trivial
theorem OwnR.mono {w:World} {base base' : Nat} {e:TypeId} {size:Nat} {A:Option Addr} {n c:Nat} {xs:List Value} (h:OwnR w base e size A n c xs) (hb:base' ≤ base):OwnR w base' e size A n c xs:=by
 refine ⟨h.1,?_⟩
 rcases h.2 with h2 | ⟨g,cap,cur,hv,hb2,r⟩
 ·exact .inl h2
 ·exact .inr ⟨g,cap,cur,hv,Nat.le_trans hb hb2,r⟩
theorem It.ok.mono {B B' : Nat} {w:World} (hb:B' ≤ B):∀ {x:It},x.ok B w→x.ok B' w
 | .row _ _ _ _,h=>Own.mono h hb
 | .rowR _ _ _ _ _ _,h=>OwnR.mono h hb
 | .blk _ _ _,h=>⟨Nat.le_trans hb h.1,h.2⟩
 | .obj _ _,h=>⟨Nat.le_trans hb h.1,h.2⟩
 | .gone,_=>trivial
structure Sep (B:Nat) (w0 w:World) (L:List It):Prop where
 below:Below B w0 w
 size:B≤w.heap.size
 ok:∀ (i:Nat) (x:It),L[i]?=some x→x.ok B w
 apart:∀ (i j:Nat) (x y:It),i≠j→L[i]?=some x→L[j]?=some y→∀ k,x.block=some k→y.block≠some k
section
variable {B : Nat} {w0 w w' : World} {L : List It}
theorem Sep.start (w:World):Sep w.heap.size w w [] :=
 ⟨Below.refl _ _,Nat.le_refl _,fun i x h=>by simp at h,fun i j x y _ h=>by simp at h⟩
theorem Sep.ext (h:Sep B w0 w L) (hb:Below w.heap.size w w'):Sep B w0 w' L :=
 ⟨h.below.trans (hb.mono h.size),Nat.le_trans h.size hb.size,fun i x hx=>(h.ok i x hx).keep fun k _ hk=>hb.block k hk,h.apart⟩
theorem Sep.push (h:Sep B w0 w L) {x:It} (hx:x.ok B w) (hf:∀ k,x.block=some k→∀ (i:Nat) (y:It),L[i]?=some y→y.block≠some k):Sep B w0 w (L ++ [x]):=by
 have split:∀ (i:Nat) (y:It),(L ++ [x])[i]?=some y→L[i]?=some y∨(i=L.length∧y=x):=by
  intro i y hy
  rcases Nat.lt_or_ge i L.length with hl | hl
  ·rw [List.getElem?_append_left hl] at hy; exact .inl hy
  ·rw [List.getElem?_append_right hl] at hy
   rcases Nat.eq_zero_or_pos (i - L.length) with h0 | h0
   ·rw [h0] at hy; simp at hy; exact .inr ⟨by omega,hy.symm⟩
   ·rw [List.getElem?_eq_none (by simp; omega)] at hy; cases hy
 refine ⟨h.below,h.size,fun i y hy=>?_,fun i j y z hij hy hz k hk=>?_⟩
 ·rcases split i y hy with h1 | ⟨_,rfl⟩
  ·exact h.ok i y h1
  ·exact hx
 ·rcases split i y hy with h1 | ⟨e1,rfl⟩ <;> rcases split j z hz with h2 | ⟨e2,rfl⟩
  ·exact h.apart i j y z hij h1 h2 k hk
  ·exact fun hk2=>hf k hk2 i y h1 hk
  ·exact hf k hk j z h2
  ·omega
theorem Sep.call (h:Sep B w0 w L) (hb:Below w.heap.size w w') {x:It} (hx:x.ok w.heap.size w'):Sep B w0 w' (L ++ [x]) :=
 (h.ext hb).push (hx.mono h.size) fun k hk i y hy hk2=>by
  have h1:=(hx.lt k hk).1
  have h2:=((h.ok i y hy).lt k hk2).2
  omega
theorem Sep.allocC (h:Sep B w0 w L) (cs:Array Value) (t:TypeId):Sep B w0 (w.alloc (.cells cs t)) (L ++ [.blk w.heap.size t cs]) :=
 h.call ((Below.refl _ _).alloc (Nat.le_refl _) _) (x:=.blk w.heap.size t cs) ⟨Nat.le_refl _,Blk.new w t cs⟩
theorem Sep.turn (h:Sep B w0 w L) {i:Nat} {x y:It} (hi:L[i]?=some x) {row:Option Nat} (hg:w.grownBy w' row) (hrow:∀ k,row=some k→x.block=some k) (hy:y.ok B w') (hd:∀ k,y.block=some k→x.block=some k∨w.heap.size≤k) :
  Sep B w0 w' (L.set i y):=by
 have hil:i<L.length:=by
  rcases Nat.lt_or_ge i L.length with h1 | h1
  ·exact h1
  ·rw [List.getElem?_eq_none h1] at hi; cases hi
 have split:∀ (j:Nat) (z:It),(L.set i y)[j]?=some z→(j=i∧z=y)∨(j≠i∧L[j]?=some z):=by
  intro j z hz
  by_cases e:j=i
  ·subst e; rw [List.getElem?_set_self hil] at hz; exact .inl ⟨rfl,by simpa using hz.symm⟩
  ·rw [List.getElem?_set_ne (Ne.symm e)] at hz; exact .inr ⟨e,hz⟩
 have hxo:=h.ok i x hi
 refine ⟨h.below.grown hg h.size (fun k hk=>(hxo.lt k (hrow k hk)).1),Nat.le_trans h.size hg.size,fun j z hz=>?_,fun j j' z z' hjj hz hz' k hk=>?_⟩
 ·rcases split j z hz with ⟨_,rfl⟩ | ⟨e,h1⟩
  ·exact hy
  ·exact (h.ok j z h1).keep fun k hk hlt=>hg.block k hlt fun e2=>h.apart j i z x e h1 hi k hk (hrow k e2.symm)
 ·rcases split j z hz with ⟨e1,rfl⟩ | ⟨e1,h1⟩ <;> rcases split j' z' hz' with ⟨e2,rfl⟩ | ⟨e2,h2⟩
  ·omega
  ·intro hk2
   rcases hd k hk with h3 | h3
   ·exact h.apart i j' x z' (Ne.symm e2) hi h2 k h3 hk2
   ·have:=((h.ok j' z' h2).lt k hk2).2; omega
  ·intro hk2
   rcases hd k hk2 with h3 | h3
   ·exact h.apart j i z x e1 h1 hi k hk h3
   ·have:=((h.ok j z h1).lt k hk).2; omega
  ·exact h.apart j j' z z' hjj h1 h2 k hk
theorem Sep.turned (h:Sep B w0 w L) {i:Nat} {x y:It} (hi:L[i]?=some x) (hg:w.grownBy w' x.block) (hy:y.ok B w') (hd:y.block=x.block∨y.block=some w.heap.size):Sep B w0 w' (L.set i y) :=
 h.turn hi hg (fun _ hk=>hk) hy fun k hk=>by
  rcases hd with e | e
  ·exact .inl (by rw [← e]; exact hk)
  ·rw [hk] at e; injection e with e; exact .inr (by omega)
theorem Sep.store (h:Sep B w0 w L) (i:Nat) {g j:Nat} {t:TypeId} {cs:Array Value} (hi:L[i]?=some (.blk g t cs)) (v:Value):Sep B w0 (w.setCell ⟨g,j,none⟩ v) (L.set i (.blk g t (cs.setIfInBounds j v))) :=
 h.turned hi (only_set (World.grownBy.refl w _) (.inl rfl) v) (y:=.blk g t (cs.setIfInBounds j v)) ⟨(h.ok i _ hi).1,(h.ok i _ hi).2.set_ j v⟩ (.inl rfl)
theorem Sep.cast {L' : List It} (h:Sep B w0 w L) (e:L=L'):Sep B w0 w L' := e ▸ h
theorem Sep.blk (h:Sep B w0 w L) (i:Nat) {g:Nat} {t:TypeId} {cs:Array Value} (hi:L[i]?=some (.blk g t cs)):Blk w g t cs:=(h.ok i _ hi).2
theorem Sep.cell (h:Sep B w0 w L) (i j:Nat) {g:Nat} {t:TypeId} {cs:Array Value} (hi:L[i]?=some (.blk g t cs)) {v:Value} (hv:cs[j]?=some v):w.cell? ⟨g,j,none⟩=some v:=((h.blk i hi).cell j).trans hv
theorem Sep.frozen (h:Sep B w0 w L) (i j:Nat) {g:Nat} {t:TypeId} {cs:Array Value} (hi:L[i]?=some (.blk g t cs)):w.frozen? ⟨g,j,none⟩=false:=(h.blk i hi).frozen j
end
section
variable {P : Program} {B : Nat} {w0 w : World} {L : List It}
end
section
variable {P : Program} {B : Nat} {w0 w : World} {L : List It}
theorem wp_store_rowS (hS:Sep B w0 w L) (i:Nat) {g:Nat} {t:TypeId} {cs cs' : Array Value} (hi:L[i]?=some (.blk g t cs)) {o:Oper} {a:Act} {K:Act→World→Prop} {Q:Exit→Act→World→Prop} (ty:TypeId) (x y:Operand) (ho:o.op=.store ty x y)
  (hx:a.eval x=.pointer (some ⟨g,0,none⟩)) (hy:a.eval y=.agg cs') (hsz:(P.info? ty).map (·.size)=some cs'.size) (hc:cs.size=cs'.size) (h1:cs'.all (·.oneCell')=true)
  (h:∀ w',Sep B w0 w' (L.set i (.blk g t cs'))→K (a.put o.dst undef) w'):o.wp P a w K Q:=by
 have hb:=hS.blk i hi
 unfold Oper.wp execOp
 simp only [ho,hx,hy,Instr.storeAt,Instr.sureAddr,Sem.run_bind,Sem.run_pure,Result.andThen_ok,run_storeVar_row w g t ty cs cs' hb hsz hc h1]
 refine h _ (hS.turned hi (y:=.blk g t cs') ⟨rfl,rfl,rfl,by simp,fun k hk hne=>setRow_other w g k cs' fun e=>hne (by rw [e]; rfl)⟩ ⟨(hS.ok i _ hi).1,setRow_heap w g cs cs' t (0,0) hb⟩ (.inl rfl))
theorem wpList_store_rowS (hS:Sep B w0 w L) (i:Nat) {g:Nat} {t:TypeId} {cs cs' : Array Value} (hi:L[i]?=some (.blk g t cs)) {ops:Array Oper} {rest:List Oper} {o:Oper} {a:Act} {Q:Exit→Act→World→Prop} (hgd:o.guard=none) (ty:TypeId) (x y:Operand) (ho:o.op=.store ty x y)
  (hx:a.eval x=.pointer (some ⟨g,0,none⟩)) (hy:a.eval y=.agg cs') (hsz:(P.info? ty).map (·.size)=some cs'.size) (hc:cs.size=cs'.size) (h1:cs'.all (·.oneCell')=true)
  (h:∀ w',Sep B w0 w' (L.set i (.blk g t cs'))→wpList P ops Q rest (a.put o.dst undef) w'):wpList P ops Q (o :: rest) a w :=
 wpList_plain hgd fun _ hK=>wp_store_rowS hS i hi ty x y ho hx hy hsz hc h1 fun w' hw=>hK _ _ (h w' hw)
theorem wpList_stopStore {ops:Array Oper} {Q:Exit→Act→World→Prop} {a:Act} {rest:List Oper} {o:Oper} {ty:TypeId} {x y:Operand} (_ho:o.op=.store ty x y) (h:Stop (wpList P ops Q (o :: rest) a w)):wpList P ops Q (o :: rest) a w:=h
theorem wpList_stopLoad {ops:Array Oper} {Q:Exit→Act→World→Prop} {a:Act} {rest:List Oper} {o:Oper} {ty:TypeId} {x:Operand} (_ho:o.op=.load ty x) (h:Stop (wpList P ops Q (o :: rest) a w)):wpList P ops Q (o :: rest) a w:=h
end
end Go.Proofs.YtgaehhechonegaaGreatDoor
namespace Go.Proofs.YtgaehhechonegaaGreatDoor
open Go.RowKit
structure Kept (F:Nat→Prop) (w w' : World):Prop where
 os:w'.os=w.os
 tape:w'.tape=w.tape
 output:w'.output=w.output
 size:w.heap.size≤w'.heap.size
 block:∀ i,i<w.heap.size→¬ F i→w'.heap[i]?=w.heap[i]?
theorem Kept.refl (F:Nat→Prop) (w:World):Kept F w w:=⟨rfl,rfl,rfl,Nat.le_refl _,fun _ _ _=>rfl⟩
theorem Kept.trans {F:Nat→Prop} {a b c:World} (h1:Kept F a b) (h2:Kept F b c):Kept F a c :=
 ⟨h2.os.trans h1.os,h2.tape.trans h1.tape,h2.output.trans h1.output,Nat.le_trans h1.size h2.size,fun i hi hn=>(h2.block i (Nat.lt_of_lt_of_le hi h1.size) hn).trans (h1.block i hi hn)⟩
theorem Kept.of_below {F:Nat→Prop} {a b:World} (h:Below a.heap.size a b):Kept F a b:=⟨h.os,h.tape,h.output,h.size,fun i hi _=>h.block i hi⟩
theorem Kept.of_grown {F:Nat→Prop} {w0 a b:World} {row:Option Nat} (h0:Kept F w0 a) (h:a.grownBy b row) (hr:∀ k,row=some k→F k∨w0.heap.size≤k):Kept F w0 b :=
 ⟨h.os.trans h0.os,h.tape.trans h0.tape,h.output.trans h0.output,Nat.le_trans h0.size h.size,fun i hi hn =>
  (h.block i (Nat.lt_of_lt_of_le hi h0.size) (fun e=>by rcases hr i e.symm with h1 | h1; exact hn h1; omega)).trans (h0.block i hi hn)⟩
structure SepF (F:Nat→Prop) (w0 w:World) (L:List It):Prop where
 kept:Kept F w0 w
 ok:∀ (i:Nat) (x:It),L[i]?=some x→x.ok 0 w
 mine:∀ (i:Nat) (x:It),L[i]?=some x→∀ k,x.block=some k→F k∨w0.heap.size≤k
 apart:∀ (i j:Nat) (x y:It),i≠j→L[i]?=some x→L[j]?=some y→∀ k,x.block=some k→y.block≠some k
section
variable {F : Nat → Prop} {w0 w w' : World} {L : List It}
end
section
variable {P : Program} {F : Nat → Prop} {w0 w : World} {L : List It}
end
end Go.Proofs.YtgaehhechonegaaGreatDoor
namespace Go.Proofs.YtgaehhechonegaaGreatDoor
open Go.RowKit
inductive GE where
 | cells (cs:List Value)
 | err (t:TypeId) (l:List UInt8)
def globs:List (Nat × GE):=[(3,.cells ([1,10,100,1000,10000,100000,1000000,10000000,100000000,1000000000,10000000000,100000000000,1000000000000,10000000000000,100000000000000,1000000000000000,10000000000000000,100000000000000000,1000000000000000000,10000000000000000000].map fun z=>.int .u64 z)),
 (5,.err 214 [118,97,108,117,101,32,111,117,116,32,111,102,32,114,97,110,103,101]),
 (4,.err 214 [105,110,118,97,108,105,100,32,115,121,110,116,97,120])]
def globInts:List Nat:=[0]
end Go.Proofs.YtgaehhechonegaaGreatDoor
