import Derived.Test.YtakolikdebfkeaaDoorQMem
import Derived.Test.YtakolikdebfkeaaDoorProg
import Derived.Laws.BitsAll
import Derived.BigQuiet
import Derived.Deep.QuietTactic
import Derived.BigRegion
import Derived.Deep.RegionHeld3
import Derived.StillTailTactics
import Derived.OrdersHeld
import Derived.RegionTactic
import Derived.Laws.AppendOwn
import Derived.Laws.World
open Nat (reduceDiv reduceMod reduceSub reduceAdd reduceLeDiff reduceEqDiff)
set_option linter.all false
namespace Go.Proofs.YtakolikdebfkeaaDoor
open Go.RowKit
def be:Nat→Nat→List UInt8
 | 0,_=>[]
 | k+1,n=>byteOf ((n / 256 ^ k % 256:Nat):Int) :: be k n
theorem be_len (k n:Nat):(be k n).length=k:=by induction k with | zero=>rfl | succ k ih=>simp [be,ih]
theorem be_get (k n:Nat):∀ i,i<k→(be k n)[i]?=some (byteOf ((n / 256 ^ (k - 1 - i) % 256:Nat):Int)):=by
 induction k with
 | zero=>intro i h; omega
 | succ k ih =>
  intro i h
  cases i with
  | zero=>simp [be]
  | succ i =>
   simp only [be,List.getElem?_cons_succ]
   rw [ih i (by omega)]
   congr 6
   omega
structure Hk where
 fr:Nat
 tt:Nat
 b:List UInt8
structure HRec where
 f:Int
 t:Int
 A:Option Addr
 c:Nat
 b:List UInt8
def HRec.cells (h:HRec):List Value:=[.int .i64 h.f,.int .i64 h.t,.slice h.A h.b.length h.c]
def hcells (hs:List HRec):List Value:=hs.flatMap HRec.cells
def u64 (x:Int):Nat:=(x % 18446744073709551616).toNat
structure HkV where
 err:Bool
 fr:Nat
 tt:Nat
 A:Option Addr
 c:Nat
 b:List UInt8
def backStep (h:HkV) (out:List UInt8):List UInt8:=out.take h.fr ++ h.b ++ out.drop h.tt
def back (base:List UInt8) (hs:List HkV):List UInt8:=hs.foldr backStep base
end Go.Proofs.YtakolikdebfkeaaDoor
namespace Go.Proofs.YtakolikdebfkeaaDoor
open Go.RowKit
def rot:Nat→Nat→Nat
 | x,0=>x
 | x,n+1=>2 * rot x n % 4294967296+2 * rot x n / 4294967296
theorem rot_lt (x:Nat) (h:x<4294967296):∀ n,rot x n<4294967296
 | 0=>h
 | n+1=>by
  have:=rot_lt x h n
  simp only [rot]
  omega
theorem rot_form (x:Nat):∀ (n s t u v:Nat),s=2 ^ n→s * t=4294967296→v<t→u<s→x=u * t+v→rot x n=v * s+u
 | 0,s,t,u,v,hs,hst,hv,hu,hx=>by
  simp at hs
  subst hs
  obtain rfl:u=0:=by omega
  simp [rot,hx]
 | n+1,s,t,u,v,hs,hst,hv,hu,hx=>by
  obtain ⟨s0,hs0⟩:∃ s0,s0=2 ^ n:=⟨_,rfl⟩
  have hs2:s=2 * s0:=by rw [hs,hs0,Nat.pow_succ]; omega
  subst hs2
  have hp:s0 * (2 * t)=4294967296:=by rw [← hst]; simp [Nat.mul_assoc,Nat.mul_comm,Nat.mul_left_comm]
  have hp2:2 * (s0 * t)=4294967296:=by rw [← hst]; simp [Nat.mul_assoc]
  obtain ⟨c,u0,hc,hu0⟩:∃ c u0,c<2∧u=2 * u0+c:=⟨u % 2,u / 2,by omega,by omega⟩
  have hu1:u0<s0:=by omega
  have hv0:c * t+v<2 * t:=by
   rcases (show c=0∨c=1 by omega) with rfl | rfl <;> omega
  have hx0:x=u0 * (2 * t)+(c * t+v):=by
   rw [hx,hu0,Nat.add_mul]; simp [Nat.mul_assoc,Nat.mul_left_comm,Nat.add_assoc]
  have ih:=rot_form x n s0 (2 * t) u0 (c * t+v) hs0 hp hv0 hu1 hx0
  have hb:s0 * v+s0≤s0 * t:=by rw [← Nat.mul_succ]; exact Nat.mul_le_mul_left _ hv
  have e:(c * t+v) * s0=c * (s0 * t)+s0 * v:=by rw [Nat.add_mul,Nat.mul_assoc,Nat.mul_comm t,Nat.mul_comm v]
  have e2:v * (2 * s0)=2 * (s0 * v):=by rw [Nat.mul_left_comm,Nat.mul_comm v]
  simp only [rot]
  rw [ih,e,e2]
  generalize s0 * t=P at *
  generalize s0 * v=Q at *
  rcases (show c=0∨c=1 by omega) with rfl | rfl
  ·simp only [Nat.zero_mul,Nat.zero_add]
   omega
  ·simp only [Nat.one_mul]
   omega
theorem rot_shift (x n:Nat) (hx:x<4294967296) (hn:n≤31):(x * 2 ^ n % 4294967296) ||| (x / 2 ^ (32 - n))=rot x n:=by
 have hst:2 ^ n * 2 ^ (32 - n)=4294967296:=by rw [← Nat.pow_add,show n+(32 - n)=32 by omega]
 have hu:x / 2 ^ (32 - n)<2 ^ n:=by
  rw [Nat.div_lt_iff_lt_mul (Nat.two_pow_pos _),hst]; exact hx
 have hf:=rot_form x n (2 ^ n) (2 ^ (32 - n)) (x / 2 ^ (32 - n)) (x % 2 ^ (32 - n)) rfl hst (Nat.mod_lt _ (Nat.two_pow_pos _)) hu (by rw [Nat.mul_comm]; exact (Nat.div_add_mod _ _).symm)
 have e:x * 2 ^ n % 4294967296=(x % 2 ^ (32 - n)) <<< n:=by
  rw [← hst,Nat.mul_comm x,Nat.mul_mod_mul_left,Nat.shiftLeft_eq,Nat.mul_comm]
 rw [hf,e,← Nat.shiftLeft_add_eq_or_of_lt hu,Nat.shiftLeft_eq]
structure ShSt where
 a:Nat
 b:Nat
 c:Nat
 d:Nat
 e:Nat
def ShSt.ok (s:ShSt):Prop:=s.a<4294967296∧s.b<4294967296∧s.c<4294967296∧s.d<4294967296∧s.e<4294967296
def stepF (i b c d:Nat):Nat :=
 if i<20 then (b &&& c) ||| ((4294967295 - b) &&& d) else if i<40 then b ^^^ c ^^^ d else if i<60 then (b &&& c) ||| (b &&& d) ||| (c &&& d) else b ^^^ c ^^^ d
def stepK (i:Nat):Nat:=if i<20 then 1518500249 else if i<40 then 1859775393 else if i<60 then 2400959708 else 3395469782
def rnd (i x:Nat) (s:ShSt):ShSt:=⟨(rot s.a 5+stepF i s.b s.c s.d+s.e+stepK i+x) % 4294967296,s.a,rot s.b 30,s.c,s.d⟩
def rnds:Nat→List Nat→ShSt→ShSt
 | _,[],s=>s
 | i,x :: xs,s=>rnds (i+1) xs (rnd i x s)
def word (p:List UInt8) (i:Nat):Nat:=(p.getD (4 * i) 0).toNat * 16777216+(p.getD (4 * i+1) 0).toNat * 65536+(p.getD (4 * i+2) 0).toNat * 256+(p.getD (4 * i+3) 0).toNat
def first16 (p:List UInt8):List Nat:=(List.range 16).map (word p)
def nextW (L:List Nat) (i:Nat):Nat:=rot (L.getD (i - 3) 0 ^^^ L.getD (i - 8) 0 ^^^ L.getD (i - 14) 0 ^^^ L.getD (i - 16) 0) 1
def ext:Nat→List Nat→List Nat
 | 0,L=>L
 | n+1,L=>ext n (L ++ [nextW L L.length])
def sched (p:List UInt8):List Nat:=ext 64 (first16 p)
def blockStep (p:List UInt8) (h:ShSt):ShSt :=
 let s:=rnds 0 (sched p) h
 ⟨(h.a+s.a) % 4294967296,(h.b+s.b) % 4294967296,(h.c+s.c) % 4294967296,(h.d+s.d) % 4294967296,(h.e+s.e) % 4294967296⟩
def chunk (l:List UInt8) (k:Nat):List UInt8:=(l.drop (64 * k)).take 64
def hashB (n:Nat) (l:List UInt8) (h:ShSt):ShSt:=((List.range n).map (chunk l)).foldl (fun h p=>blockStep p h) h
def padZ (n:Nat):Nat:=(119 - n % 64) % 64
def padded (l:List UInt8):List UInt8:=l ++ [128] ++ List.replicate (padZ l.length) 0 ++ be 8 (8 * l.length)
def st0:ShSt:=⟨1732584193,4023233417,2562383102,271733878,3285377520⟩
def shaSt (l:List UInt8):ShSt:=hashB ((padded l).length / 64) (padded l) st0
def ShSt.bytes (s:ShSt):List UInt8:=be 4 s.a ++ be 4 s.b ++ be 4 s.c ++ be 4 s.d ++ be 4 s.e
def sha (l:List UInt8):List UInt8:=(shaSt l).bytes
theorem stepF_lt (i b c d:Nat) (hb:b<4294967296) (hc:c<4294967296) (hd:d<4294967296):stepF i b c d<4294967296:=by
 have e:(4294967296:Nat)=2 ^ 32:=rfl
 rw [e] at hb hc hd ⊢
 unfold stepF
 split
 ·exact Nat.or_lt_two_pow (Nat.and_lt_two_pow _ hc) (Nat.and_lt_two_pow _ hd)
 ·split
  ·exact Nat.xor_lt_two_pow (Nat.xor_lt_two_pow hb hc) hd
  ·split
   ·exact Nat.or_lt_two_pow (Nat.or_lt_two_pow (Nat.and_lt_two_pow _ hc) (Nat.and_lt_two_pow _ hd)) (Nat.and_lt_two_pow _ hd)
   ·exact Nat.xor_lt_two_pow (Nat.xor_lt_two_pow hb hc) hd
theorem stepK_lt (i:Nat):stepK i<4294967296:=by
 unfold stepK; split <;> (try split) <;> (try split) <;> omega
theorem rnd_ok (i x:Nat) (s:ShSt) (h:s.ok):(rnd i x s).ok:=by
 obtain ⟨h1,h2,h3,h4,h5⟩:=h
 exact ⟨Nat.mod_lt _ (by omega),h1,rot_lt _ h2 _,h3,h4⟩
theorem blockStep_ok (p:List UInt8) (h:ShSt):(blockStep p h).ok:=⟨Nat.mod_lt _ (by omega),Nat.mod_lt _ (by omega),Nat.mod_lt _ (by omega),Nat.mod_lt _ (by omega),Nat.mod_lt _ (by omega)⟩
theorem hashB_zero (l:List UInt8) (h:ShSt):hashB 0 l h=h:=by simp [hashB]
theorem hashB_succ (n:Nat) (l:List UInt8) (h:ShSt):hashB (n+1) l h=blockStep (chunk l n) (hashB n l h):=by
 unfold hashB
 rw [List.range_succ,List.map_append,List.foldl_append,List.map_cons,List.map_nil,List.foldl_cons,List.foldl_nil]
theorem hashB_ok (n:Nat) (l:List UInt8) (h:ShSt) (hh:h.ok):(hashB n l h).ok:=by
 cases n with
 | zero=>rw [hashB_zero]; exact hh
 | succ n=>rw [hashB_succ]; exact blockStep_ok _ _
theorem word_lt (p:List UInt8) (i:Nat):word p i<4294967296:=by
 unfold word
 have:=(p.getD (4 * i) 0).toNat_lt
 have:=(p.getD (4 * i+1) 0).toNat_lt
 have:=(p.getD (4 * i+2) 0).toNat_lt
 have:=(p.getD (4 * i+3) 0).toNat_lt
 omega
def allLt (L:List Nat):Prop:=∀ x∈L,x<4294967296
theorem allLt.getD {L:List Nat} (h:allLt L) (i:Nat):L.getD i 0<4294967296:=by
 rw [List.getD_eq_getElem?_getD]
 rcases Nat.lt_or_ge i L.length with h1 | h1
 ·rw [List.getElem?_eq_getElem h1]; exact h _ (List.getElem_mem h1)
 ·rw [List.getElem?_eq_none h1]; simp
theorem nextW_lt (L:List Nat) (i:Nat) (h:allLt L):nextW L i<4294967296:=by
 unfold nextW
 have e:(4294967296:Nat)=2 ^ 32:=rfl
 refine rot_lt _ ?_ 1
 have h1:=h.getD (i - 3)
 have h2:=h.getD (i - 8)
 have h3:=h.getD (i - 14)
 have h4:=h.getD (i - 16)
 rw [e] at h1 h2 h3 h4 ⊢
 exact Nat.xor_lt_two_pow (Nat.xor_lt_two_pow (Nat.xor_lt_two_pow h1 h2) h3) h4
theorem first16_lt (p:List UInt8):allLt (first16 p):=by
 intro x hx
 obtain ⟨i,_,rfl⟩:=List.mem_map.1 hx
 exact word_lt p i
theorem padded_len (l:List UInt8):(padded l).length % 64=0:=by
 unfold padded padZ
 simp only [List.length_append,List.length_replicate,be_len,List.length_cons,List.length_nil]
 omega
theorem bytes_len (s:ShSt):s.bytes.length=20:=by simp [ShSt.bytes,be_len]
theorem rnds_at (L:List Nat) (i k:Nat) (s:ShSt) (hk:k<L.length):rnds i (L.drop k) s=rnds (i+1) (L.drop (k+1)) (rnd i L[k] s):=by
 rw [List.drop_eq_getElem_cons hk]; rfl
theorem first16_take (p:List UInt8) (k:Nat) (hk:k<16):(first16 p).take (k+1)=(first16 p).take k ++ [word p k]:=by
 rw [List.take_succ_eq_append_getElem (by simp [first16]; omega)]; simp [first16]
theorem ext_zero (L:List Nat):ext 0 L=L:=rfl
theorem ext_succ (n:Nat) (L:List Nat):ext (n+1) L=ext n (L ++ [nextW L L.length]):=rfl
theorem sched_def (p:List UInt8):sched p=ext 64 (first16 p):=rfl
theorem rnds_nil (i:Nat) (s:ShSt):rnds i [] s=s:=rfl
theorem blockStep_def (p:List UInt8) (h:ShSt):blockStep p h=⟨(h.a+(rnds 0 (sched p) h).a) % 4294967296,(h.b+(rnds 0 (sched p) h).b) % 4294967296,(h.c+(rnds 0 (sched p) h).c) % 4294967296,(h.d+(rnds 0 (sched p) h).d) % 4294967296,(h.e+(rnds 0 (sched p) h).e) % 4294967296⟩:=by unfold blockStep; rfl
theorem nextW_def (L:List Nat) (i:Nat):nextW L i=rot (L.getD (i - 3) 0 ^^^ L.getD (i - 8) 0 ^^^ L.getD (i - 14) 0 ^^^ L.getD (i - 16) 0) 1:=rfl
theorem sha_def (l:List UInt8):sha l=(hashB ((padded l).length / 64) (padded l) st0).bytes:=rfl
attribute [irreducible] sched ext rnds blockStep hashB shaSt sha padded nextW first16 rot word
end Go.Proofs.YtakolikdebfkeaaDoor
namespace Go.Proofs.YtakolikdebfkeaaDoor
open Go.RowKit
set_option maxHeartbeats 400000 in
theorem rotL1 (x:Nat) (w:World) (hx:x<4294967296) :
  Calls Tryd.prog 64 #[.int .u32 (x:Int),.int .i64 1] w fun e w' => e=.returned (.int .u32 ((rot x 1:Nat):Int))∧w=w' := by
 have hv:bits .or .u32 ((x:Int) * 2 % 4294967296) ((x:Int) / 2147483648)=((rot x 1:Nat):Int):=by
  have h:=u32_or_nat (x * 2 ^ 1 % 4294967296) (x / 2 ^ (32 - 1)) (Nat.mod_lt _ (by omega)) (Nat.lt_of_le_of_lt (Nat.div_le_self _ _) hx)
  rw [rot_shift x 1 hx (by omega)] at h
  simpa using h
 have hm:bits .and .u64 1 31=1:=by kernel_rfl
 go_enter Tryd.func64,Tryd.ntmps64
 go_wp2
 go_ret
 exact ⟨rfl,rfl⟩
set_option maxHeartbeats 400000 in
theorem rotL5 (x:Nat) (w:World) (hx:x<4294967296) :
  Calls Tryd.prog 64 #[.int .u32 (x:Int),.int .i64 5] w fun e w' => e=.returned (.int .u32 ((rot x 5:Nat):Int))∧w=w' := by
 have hv:bits .or .u32 ((x:Int) * 32 % 4294967296) ((x:Int) / 134217728)=((rot x 5:Nat):Int):=by
  have h:=u32_or_nat (x * 2 ^ 5 % 4294967296) (x / 2 ^ (32 - 5)) (Nat.mod_lt _ (by omega)) (Nat.lt_of_le_of_lt (Nat.div_le_self _ _) hx)
  rw [rot_shift x 5 hx (by omega)] at h
  simpa using h
 have hm:bits .and .u64 5 31=5:=by kernel_rfl
 go_enter Tryd.func64,Tryd.ntmps64
 go_wp2
 go_ret
 exact ⟨rfl,rfl⟩
set_option maxHeartbeats 400000 in
theorem rotL30 (x:Nat) (w:World) (hx:x<4294967296) :
  Calls Tryd.prog 64 #[.int .u32 (x:Int),.int .i64 30] w fun e w' => e=.returned (.int .u32 ((rot x 30:Nat):Int))∧w=w' := by
 have hv:bits .or .u32 ((x:Int) * 1073741824 % 4294967296) ((x:Int) / 4)=((rot x 30:Nat):Int):=by
  have h:=u32_or_nat (x * 2 ^ 30 % 4294967296) (x / 2 ^ (32 - 30)) (Nat.mod_lt _ (by omega)) (Nat.lt_of_le_of_lt (Nat.div_le_self _ _) hx)
  rw [rot_shift x 30 hx (by omega)] at h
  simpa using h
 have hm:bits .and .u64 30 31=30:=by kernel_rfl
 go_enter Tryd.func64,Tryd.ntmps64
 go_wp2
 go_ret
 exact ⟨rfl,rfl⟩
theorem u32_not (b:Nat) (hb:b<4294967296):bits .xor .u32 IntKind.u32.max (b:Int)=((4294967295 - b:Nat):Int):=by
 have h:=u32_xor_nat 4294967295 b (by omega) hb
 have e:(4294967295 ^^^ b:Nat)=4294967295 - b:=by
  apply Nat.eq_of_testBit_eq
  intro j
  rw [show (4294967295:Nat)=2 ^ 32 - 1 from rfl,Nat.testBit_xor,Nat.testBit_two_pow_sub_one,Nat.sub_sub,Nat.add_comm 1 b,Nat.testBit_two_pow_sub_succ hb]
  by_cases hj:j<32
  ·simp [hj]
  ·have:b.testBit j=false:=Nat.testBit_lt_two_pow (Nat.lt_of_lt_of_le (show b<2 ^ 32 from hb) (Nat.pow_le_pow_right (show 0<2 by omega) (show 32≤j by omega)))
   simp [hj,this]
 rw [e] at h
 exact h
theorem f20 (i b c d:Nat) (hi:i<20) (hb:b<4294967296) (hc:c<4294967296) (hd:d<4294967296) :
  bits .or .u32 (bits .and .u32 (b:Int) (c:Int)) (bits .and .u32 (bits .xor .u32 IntKind.u32.max (b:Int)) (d:Int))=((stepF i b c d:Nat):Int):=by
 rw [u32_not b hb,u32_and_nat b c hb hc,u32_and_nat _ d (by omega) hd,u32_or_nat _ _ (Nat.lt_of_le_of_lt Nat.and_le_left hb) (Nat.lt_of_le_of_lt Nat.and_le_right hd)]
 unfold stepF; rw [if_pos hi]
theorem f40 (i b c d:Nat) (h0:20≤i) (hi:i<40∨60≤i) (hb:b<4294967296) (hc:c<4294967296) (hd:d<4294967296) :
  bits .xor .u32 (bits .xor .u32 (b:Int) (c:Int)) (d:Int)=((stepF i b c d:Nat):Int):=by
 rw [u32_xor_nat b c hb hc,u32_xor_nat _ d (Nat.xor_lt_two_pow (n:=32) hb hc) hd]
 unfold stepF; rw [if_neg (by omega)]
 rcases hi with hi | hi
 ·rw [if_pos hi]
 ·rw [if_neg (by omega),if_neg (by omega)]
theorem f60 (i b c d:Nat) (h0:40≤i) (hi:i<60) (hb:b<4294967296) (hc:c<4294967296) (hd:d<4294967296) :
  bits .or .u32 (bits .or .u32 (bits .and .u32 (b:Int) (c:Int)) (bits .and .u32 (b:Int) (d:Int))) (bits .and .u32 (c:Int) (d:Int))=((stepF i b c d:Nat):Int):=by
 rw [u32_and_nat b c hb hc,u32_and_nat b d hb hd,u32_and_nat c d hc hd,u32_or_nat _ _ (Nat.lt_of_le_of_lt Nat.and_le_left hb) (Nat.lt_of_le_of_lt Nat.and_le_left hb),
  u32_or_nat _ _ (Nat.or_lt_two_pow (n:=32) (Nat.lt_of_le_of_lt Nat.and_le_left hb) (Nat.lt_of_le_of_lt Nat.and_le_left hb)) (Nat.lt_of_le_of_lt Nat.and_le_left hc)]
 unfold stepF; rw [if_neg (by omega),if_neg (by omega),if_pos hi]
set_option maxHeartbeats 400000 in
theorem shaPart (i:Nat) (b c d:Nat) (w:World) (hi:i<80) (hb:b<4294967296) (hc:c<4294967296) (hd:d<4294967296) :
  Calls Tryd.prog 65 #[.int .i64 (i:Int),.int .u32 (b:Int),.int .u32 (c:Int),.int .u32 (d:Int)] w fun e w' => e=.returned (.tuple #[.int .u32 ((stepF i b c d:Nat):Int),.int .u32 ((stepK i:Nat):Int)])∧w=w' := by
 rcases Nat.lt_or_ge i 20 with h1 | h1
 ·have hi1:(i:Int)<20:=by omega
  have hF:=f20 i b c d h1 hb hc hd
  have hsg:IntKind.u32.signed=false:=rfl
  have hK:=hide (show stepK i=1518500249 by unfold stepK; rw [if_pos h1])
  go_enter Tryd.func65,Tryd.ntmps65
  go_wp2
  go_ret2
  exact ⟨by rw [hK.out]; rfl,rfl⟩
 ·rcases Nat.lt_or_ge i 40 with h2 | h2
  ·have hi1:(20:Int)≤(i:Int):=by omega
   have hi2:(i:Int)<40:=by omega
   have hF:=f40 i b c d h1 (.inl h2) hb hc hd
   have hsg:IntKind.u32.signed=false:=rfl
   have hK:=hide (show stepK i=1859775393 by unfold stepK; rw [if_neg (by omega),if_pos h2])
   go_enter Tryd.func65,Tryd.ntmps65
   go_wp2
   go_ret2
   exact ⟨by rw [hK.out]; rfl,rfl⟩
  ·rcases Nat.lt_or_ge i 60 with h3 | h3
   ·have hi2:(40:Int)≤(i:Int):=by omega
    have hi3:(i:Int)<60:=by omega
    have hF:=f60 i b c d h2 h3 hb hc hd
    have hsg:IntKind.u32.signed=false:=rfl
    have hK:=hide (show stepK i=2400959708 by unfold stepK; rw [if_neg (by omega),if_neg (by omega),if_pos h3])
    go_enter Tryd.func65,Tryd.ntmps65
    go_wp2
    go_ret2
    exact ⟨by rw [hK.out]; rfl,rfl⟩
   ·have hi3:(60:Int)≤(i:Int):=by omega
    have hF:=f40 i b c d h1 (.inr h3) hb hc hd
    have hsg:IntKind.u32.signed=false:=rfl
    have hK:=hide (show stepK i=3395469782 by unfold stepK; rw [if_neg (by omega),if_neg (by omega),if_neg (by omega)])
    go_enter Tryd.func65,Tryd.ntmps65
    go_wp2
    go_ret2
    exact ⟨by rw [hK.out]; rfl,rfl⟩
end Go.Proofs.YtakolikdebfkeaaDoor
namespace Go.Proofs.YtakolikdebfkeaaDoor
open Go.RowKit
theorem wpList_stop_load {P:Program} {ops:Array Oper} {Q:Exit→Act→World→Prop} {a:Act} {w:World} {rest:List Oper} {o:Oper} {ty:TypeId} {x:Operand} (_ho:o.op=.load ty x) (h:Stop (wpList P ops Q (o :: rest) a w)):wpList P ops Q (o :: rest) a w:=h
theorem info20:(Tryd.prog.info? 49).map (fun i=>i.size)=some 20:=by kernel_rfl
def z20:Array Value:=(List.replicate 20 (Value.int .u8 0)).toArray
theorem zero20 (w:World):(zeroValue 49).run Tryd.prog w=.ok (.agg z20) w:=by
 unfold z20; kernel_rfl
end Go.Proofs.YtakolikdebfkeaaDoor
namespace Go.Proofs.YtakolikdebfkeaaDoor
open Go.RowKit
def u32v (n:Nat):Value:=.int .u32 (n:Int)
def stCells (s:ShSt):Array Value:=#[.int .u32 (s.a:Int),.int .u32 (s.b:Int),.int .u32 (s.c:Int),.int .u32 (s.d:Int),.int .u32 (s.e:Int)]
def wArr (L:List Nat):Array Value:=(L.map u32v ++ List.replicate (80 - L.length) (Value.int .u32 0)).toArray
theorem wArr_at (L:List Nat) (i:Nat) (hi:i<L.length):(wArr L)[i]?=some (.int .u32 ((L.getD i 0:Nat):Int)):=by
 unfold wArr
 simp [List.getElem?_append_left (show i<(L.map u32v).length by simpa using hi),hi,u32v,List.getD_eq_getElem?_getD]
theorem wArr_at2 (L:List Nat) (i:Nat) (hi:i<80) (hL:L.length≤80):∃ v,(wArr L)[i]?=some v:=by
 have:i<(wArr L).size:=by unfold wArr; simp; omega
 exact ⟨_,Array.getElem?_eq_getElem this⟩
theorem wArr_set (L:List Nat) (x:Nat) (hL:L.length<80):(wArr L).setIfInBounds L.length (.int .u32 (x:Int))=wArr (L ++ [x]):=by
 unfold wArr
 rw [List.setIfInBounds_toArray]
 congr 1
 have e:80 - L.length=(80 - (L ++ [x]).length)+1:=by simp; omega
 rw [e,List.replicate_succ,List.set_append]
 simp [u32v]
theorem wArr_nil:wArr []=(List.replicate 80 (Value.int .u32 0)).toArray:=by unfold wArr; simp
theorem Rd.atS {w:World} {b o:Nat} {l:List UInt8} (h:Rd w (some ⟨b,o,none⟩) l):∀ k,k<l.length→w.cell? ⟨b,o+k,none⟩=some (.int .u8 (at8 l k)):=by
 intro k hk
 obtain ⟨b2,o2,e,hc⟩:=h (by omega)
 cases e
 exact hc k hk
theorem word_bits (p:List UInt8) (k:Nat) :
  bits .or .u32 (bits .or .u32 (bits .or .u32 (at8 p (4 * k) % 4294967296 * 16777216 % 4294967296) (at8 p (4 * k+1) % 4294967296 * 65536 % 4294967296)) (at8 p (4 * k+2) % 4294967296 * 256 % 4294967296)) (at8 p (4 * k+3) % 4294967296)=((word p k:Nat):Int):=by
 have a0:=(p.getD (4 * k) 0).toNat_lt
 have a1:=(p.getD (4 * k+1) 0).toNat_lt
 have a2:=(p.getD (4 * k+2) 0).toNat_lt
 have a3:=(p.getD (4 * k+3) 0).toNat_lt
 unfold at8 word
 generalize (p.getD (4 * k) 0).toNat=x0 at *
 generalize (p.getD (4 * k+1) 0).toNat=x1 at *
 generalize (p.getD (4 * k+2) 0).toNat=x2 at *
 generalize (p.getD (4 * k+3) 0).toNat=x3 at *
 have e0:(x0:Int) % 4294967296 * 16777216 % 4294967296=((x0 * 16777216:Nat):Int):=by omega
 have e1:(x1:Int) % 4294967296 * 65536 % 4294967296=((x1 * 65536:Nat):Int):=by omega
 have e2:(x2:Int) % 4294967296 * 256 % 4294967296=((x2 * 256:Nat):Int):=by omega
 have e3:(x3:Int) % 4294967296=(x3:Int):=by omega
 have j1:x0 * 16777216 ||| x1 * 65536=x0 * 16777216+x1 * 65536:=nat_join 24 _ _ (by omega) (by omega)
 have j2:x0 * 16777216+x1 * 65536 ||| x2 * 256=x0 * 16777216+x1 * 65536+x2 * 256:=nat_join 16 _ _ (by omega) (by omega)
 have j3:x0 * 16777216+x1 * 65536+x2 * 256 ||| x3=x0 * 16777216+x1 * 65536+x2 * 256+x3:=nat_join 8 _ _ (by omega) (by omega)
 rw [e0,e1,e2,e3,u32_or_nat _ _ (by omega) (by omega),j1,u32_or_nat _ _ (by omega) (by omega),j2,u32_or_nat _ _ (by omega) (by omega),j3]
theorem xor4_bits (a b c d:Nat) (ha:a<4294967296) (hb:b<4294967296) (hc:c<4294967296) (hd:d<4294967296) :
  bits .xor .u32 (bits .xor .u32 (bits .xor .u32 (a:Int) (b:Int)) (c:Int)) (d:Int)=((a ^^^ b ^^^ c ^^^ d:Nat):Int):=by
 rw [u32_xor_nat a b ha hb,u32_xor_nat _ c (Nat.xor_lt_two_pow (n:=32) ha hb) hc,u32_xor_nat _ d (Nat.xor_lt_two_pow (n:=32) (Nat.xor_lt_two_pow (n:=32) ha hb) hc) hd]
theorem info80:(Tryd.prog.info? 105).map (fun i=>i.size)=some 80:=by kernel_rfl
theorem index80 (L:List Nat) (j:Nat) (hl:L.length=80) (hj:j<80) (w:World):(Instr.index 105 (.agg (wArr L)) (.int .i64 (j:Int))).run Tryd.prog w=.ok (.int .u32 ((L.getD j 0:Nat):Int)) w:=by
 have h1:=wArr_at L j (by omega)
 have e:(wArr L).size=80:=by unfold wArr; simp; omega
 have hz:(0:Int)≤(j:Int):=by omega
 have hw:IntKind.i64.wrap (j:Int)=j:=IntWalk.i64_in _ (by omega)
 have hj2:(j:Int)<80:=by omega
 simp [go_sem,Instr.index,h1,e,run_underlying Tryd.underlying105,hw,hz,hj2]
 omega
theorem zero80 (w:World):(zeroValue 105).run Tryd.prog w=.ok (.agg (wArr [])) w:=by
 rw [wArr_nil]; kernel_rfl
def mixCells (k:Nat) (h s:ShSt):Array Value :=
 #[.int .u32 ((if 0<k then (h.a+s.a) % 4294967296 else h.a:Nat):Int),.int .u32 ((if 1<k then (h.b+s.b) % 4294967296 else h.b:Nat):Int),.int .u32 ((if 2<k then (h.c+s.c) % 4294967296 else h.c:Nat):Int),.int .u32 ((if 3<k then (h.d+s.d) % 4294967296 else h.d:Nat):Int),.int .u32 ((if 4<k then (h.e+s.e) % 4294967296 else h.e:Nat):Int)]
set_option maxHeartbeats 1000000 in
set_option maxRecDepth 100000 in
theorem shaBlock (Ap:Option Addr) (cp gh:Nat) (p:List UInt8) (h:ShSt) (w:World) (hp:p.length=64) (hr:Rd w Ap p) (hcp:64≤cp) (hcm:cp≤9223372036854775807) (hne:ablk Ap≠some gh) (hb:Blk w gh 104 (stCells h)) (hok:h.ok) :
  Calls Tryd.prog 63 #[.slice Ap 64 cp,.pointer (some ⟨gh,0,none⟩)] w fun e w' => (∃ v,e=.returned v)∧Blk w' gh 104 (stCells (blockStep p h))∧w.grownBy w' (some gh):=by
 obtain ⟨bp,op,rfl,hbp,hcell⟩:=hr.at_ (by omega)
 have hS:=(SepF.start (fun k=>k=gh) w).old hb rfl (fun i y hy=>by simp at hy)
 have Hcell:=hide hcell
 clear hcell
 have hz:=zero80
 go_enter Tryd.func63,Tryd.ntmps63
 go_wp2_with (at_builtin; refine stopAt ?_)
 replace hS:=hS.allocC (wArr []) 105
 simp only [List.cons_append,List.nil_append,List.set_cons_zero,List.set_cons_succ,List.map_cons,List.map_nil,List.getD_cons_zero,List.getD_cons_succ,Array.toList] at hS
 go_loopw [13] (fun i wr=>∃ k:Nat,k≤16∧i=.int .i64 k∧SepF (fun k=>k=gh) w wr [.blk gh 104 (stCells h),.blk w.heap.size 105 (wArr ((first16 p).take k))])
  (fun i _=>16 - (intOf i).toNat)
 case atStart=>exact ⟨0,by omega,rfl,hS⟩
 case round =>
  clear hS
  obtain ⟨k,hk,rfl,hS⟩:=hrel
  by_cases hlt:k<16
  ·skip
   go_wp2_with (at_builtin; refine stopAt ?_)
   have g0:=hS.old_rd hr (fun k hk=>fun e=>hne (by rw [hk,e]))
   have hc:=g0.atS
   have c0:=hc (4 * k) (by omega)
   have c1:=hc (4 * k+1) (by omega)
   have c2:=hc (4 * k+2) (by omega)
   have c3:=hc (4 * k+3) (by omega)
   have hl:((first16 p).take k).length=k:=by simp [first16]; omega
   obtain ⟨v,hv⟩:=wArr_at2 ((first16 p).take k) k (by omega) (by omega)
   have cw:=hS.cell 1 k rfl hv
   have fw:=hS.frozen 1 k rfl
   have hwd:=word_bits p k
   clear hc
   go_region
   replace hS:=(hS.store 1 (j:=k) rfl (.int .u32 ((word p k:Nat):Int))).drew
   simp only [List.cons_append,List.nil_append,List.set_cons_zero,List.set_cons_succ,List.map_cons,List.map_nil,List.getD_cons_zero,List.getD_cons_succ,Array.toList] at hS
   have hset:=wArr_set ((first16 p).take k) (word p k) (by omega)
   rw [hl,← first16_take p k hlt] at hset
   rw [hset] at hS
   clear hset g0 c0 c1 c2 c3 hv cw fw hwd
   generalize (wr.setCell _ _).drew=wz at hS ⊢
   go_wp2
   go_roundw
   case rel=>exact ⟨k+1,by omega,by go_num,hS⟩
   case measure=>simp [intOf]; omega
  ·have hge16:(16:Int)≤(k:Int):=by omega
   rw [List.take_of_length_le (by simp [first16]; omega)] at hS
   clear hk
   go_wp2_with (at_builtin; refine stopAt ?_)
   have hl16:(first16 p).length=16:=by simp [first16]
   go_loopw [5] (fun i wr=>∃ L:List Nat,L.length≤80∧16≤L.length∧i=.int .i64 L.length∧allLt L∧Hid (sched p=ext (80 - L.length) L)∧SepF (fun k=>k=gh) w wr [.blk gh 104 (stCells h),.blk w.heap.size 105 (wArr L)])
    (fun i _=>80 - (intOf i).toNat)
   case atStart=>exact ⟨first16 p,by omega,by omega,by rw [hl16]; rfl,first16_lt p,hide (by rw [hl16,sched_def]),hS⟩
   case round =>
    clear hS hl16
    obtain ⟨L,hL80,hL16,rfl,hall,HE,hS⟩:=hrel
    by_cases hlt:L.length<80
    ·skip
     have c3:=hS.cell 1 (L.length - 3) rfl (wArr_at L _ (by omega))
     have c8:=hS.cell 1 (L.length - 8) rfl (wArr_at L _ (by omega))
     have c14:=hS.cell 1 (L.length - 14) rfl (wArr_at L _ (by omega))
     have c16:=hS.cell 1 (L.length - 16) rfl (wArr_at L _ (by omega))
     obtain ⟨v,hv⟩:=wArr_at2 L L.length (by omega) (by omega)
     have cw:=hS.cell 1 L.length rfl hv
     have fw:=hS.frozen 1 L.length rfl
     have st:=fun x=>hS.store 1 (j:=L.length) rfl x
     have dd:∀ (x:Value) (i:Nat),i<L.length→(wr.setCell ⟨w.heap.size,L.length,none⟩ x).cell? ⟨w.heap.size,i,none⟩=some (.int .u32 ((L.getD i 0:Nat):Int)):=fun x i hi =>
      (st x).cell 1 i rfl (by rw [Array.getElem?_setIfInBounds_ne (by omega)]; exact wArr_at L i hi)
     have d3:=fun x=>dd x (L.length - 3) (by omega)
     have d8:=fun x=>dd x (L.length - 8) (by omega)
     have d14:=fun x=>dd x (L.length - 14) (by omega)
     have d16:=fun x=>dd x (L.length - 16) (by omega)
     have y3:IntKind.i64.wrap ((L.length:Int) - 3)=(L.length:Int) - 3:=IntWalk.i64_in _ (by omega)
     have y8:IntKind.i64.wrap ((L.length:Int) - 8)=(L.length:Int) - 8:=IntWalk.i64_in _ (by omega)
     have y14:IntKind.i64.wrap ((L.length:Int) - 14)=(L.length:Int) - 14:=IntWalk.i64_in _ (by omega)
     have y16:IntKind.i64.wrap ((L.length:Int) - 16)=(L.length:Int) - 16:=IntWalk.i64_in _ (by omega)
     have z3:0≤(L.length:Int) - 3:=by omega
     have q3:(L.length:Int) - 3<80:=by omega
     have a3:(3:Int)≤(L.length:Int):=by omega
     have b3:3≤L.length:=by omega
     have z8:0≤(L.length:Int) - 8:=by omega
     have q8:(L.length:Int) - 8<80:=by omega
     have a8:(8:Int)≤(L.length:Int):=by omega
     have b8:8≤L.length:=by omega
     have z14:0≤(L.length:Int) - 14:=by omega
     have q14:(L.length:Int) - 14<80:=by omega
     have a14:(14:Int)≤(L.length:Int):=by omega
     have b14:14≤L.length:=by omega
     have z16:0≤(L.length:Int) - 16:=by omega
     have q16:(L.length:Int) - 16<80:=by omega
     have a16:(16:Int)≤(L.length:Int):=by omega
     have b16:16≤L.length:=by omega
     have t3:((L.length:Int) - 3).toNat=L.length - 3:=by omega
     have t8:((L.length:Int) - 8).toNat=L.length - 8:=by omega
     have t14:((L.length:Int) - 14).toNat=L.length - 14:=by omega
     have t16:((L.length:Int) - 16).toNat=L.length - 16:=by omega
     have hlt2:(L.length:Int)<80:=by omega
     have hx:=xor4_bits _ _ _ _ (hall.getD (L.length - 3)) (hall.getD (L.length - 8)) (hall.getD (L.length - 14)) (hall.getD (L.length - 16))
     have HX:=hide (show L.getD (L.length - 3) 0 ^^^ L.getD (L.length - 8) 0 ^^^ L.getD (L.length - 14) 0 ^^^ L.getD (L.length - 16) 0<4294967296 from Nat.xor_lt_two_pow (n:=32) (Nat.xor_lt_two_pow (n:=32) (Nat.xor_lt_two_pow (n:=32) (hall.getD _) (hall.getD _)) (hall.getD _)) (hall.getD _))
     have HN:=hide (nextW_def L L.length)
     have Hall:=hide hall
     have HnL:=hide (nextW_lt L L.length hall)
     clear st dd hall
     generalize L.getD (L.length - 3) 0=x3 at *
     generalize L.getD (L.length - 8) 0=x8 at *
     generalize L.getD (L.length - 14) 0=x14 at *
     generalize L.getD (L.length - 16) 0=x16 at *
     have rr:=fun w=>rotL1 (x3 ^^^ x8 ^^^ x14 ^^^ x16) w HX.out
     have RR:=hide rr
     clear rr
     generalize x3 ^^^ x8 ^^^ x14 ^^^ x16=X at *
     go_wp2_with (at_builtin; refine stopAt ?_)
     apply wp_meet
     ·go_region_held3 (fun W' => W'.cell? ⟨w.heap.size,L.length - 3,none⟩=some (.int .u32 (x3:Int))∧W'.cell? ⟨w.heap.size,L.length - 8,none⟩=some (.int .u32 (x8:Int))∧W'.cell? ⟨w.heap.size,L.length - 14,none⟩=some (.int .u32 (x14:Int))∧W'.cell? ⟨w.heap.size,L.length - 16,none⟩=some (.int .u32 (x16:Int))) (first | exact ⟨c3,c8,c14,c16⟩ | exact ⟨d3 _,d8 _,d14 _,d16 _⟩) (first | (go_at_call 64; (with_reducible refine (RR.out _).mono ?_); rintro e w' ⟨rfl,rfl⟩))
      all_goals exact ⟨rfl,rfl,rfl⟩
     replace hS:=(hS.store 1 (j:=L.length) rfl (.int .u32 ((rot X 1:Nat):Int))).drew
     simp only [List.cons_append,List.nil_append,List.set_cons_zero,List.set_cons_succ,List.map_cons,List.map_nil,List.getD_cons_zero,List.getD_cons_succ,Array.toList] at hS
     rw [wArr_set L (rot X 1) hlt] at hS
     clear c3 c8 c14 c16 hv cw fw d3 d8 d14 d16 y3 y8 y14 y16 z3 z8 z14 z16 q3 q8 q14 q16 a3 a8 a14 a16 b3 b8 b14 b16 t3 t8 t14 t16 hx RR
     generalize (wr.setCell _ _).drew=wz at hS ⊢
     go_wp2
     go_roundw
     case rel =>
      refine ⟨L ++ [rot X 1],by simp; omega,by simp; omega,by simp,?_,hide ?_,hS⟩
      ·intro y hy
       rcases List.mem_append.1 hy with h1 | h1
       ·exact Hall.out y h1
       ·rw [List.mem_singleton.1 h1,← HN.out]; exact HnL.out
      ·rw [HE.out,show 80 - L.length=(80 - (L ++ [rot X 1]).length)+1 by simp; omega]
       rw [ext_succ,HN.out]
     case measure=>simp [intOf]; omega
    ·have hl80:L.length=80:=by omega
     have hs0:=HE.out
     rw [hl80] at hs0
     rw [Nat.sub_self,ext_zero] at hs0
     have HS:=hide hs0
     have Hl80:=hide hl80
     clear hs0 hL80 hL16 hlt HE
     have g0:wr.cell? ⟨gh,0,none⟩=some (.int .u32 (h.a:Int)):=hS.cell 0 0 rfl rfl
     have g1:wr.cell? ⟨gh,1,none⟩=some (.int .u32 (h.b:Int)):=hS.cell 0 1 rfl rfl
     have g2:wr.cell? ⟨gh,2,none⟩=some (.int .u32 (h.c:Int)):=hS.cell 0 2 rfl rfl
     have g3:wr.cell? ⟨gh,3,none⟩=some (.int .u32 (h.d:Int)):=hS.cell 0 3 rfl rfl
     have g4:wr.cell? ⟨gh,4,none⟩=some (.int .u32 (h.e:Int)):=hS.cell 0 4 rfl rfl
     have hge:(80:Int)≤(L.length:Int):=by omega
     clear hl80
     go_wp2_with (first | (at_builtin; refine stopAt ?_) | (with_reducible refine wpList_stop_load (ty:=105) (x:=.tmp 3) rfl ?_))
     have hcs:(#[.int .u32 (h.a:Int),.int .u32 (h.b:Int),.int .u32 (h.c:Int),.int .u32 (h.d:Int),.int .u32 (h.e:Int)]:Array Value)=stCells h:=rfl
     rw [hcs]
     clear hcs
     replace hS:=hS.allocC (stCells h) 104
     simp only [List.cons_append,List.nil_append,List.set_cons_zero,List.set_cons_succ,List.map_cons,List.map_nil,List.getD_cons_zero,List.getD_cons_succ,Array.toList] at hS
     clear g0 g1 g2 g3 g4 hge hge16
     generalize wr.heap.size=ga at *
     generalize wr.alloc (.cells (stCells h) 104)=W2 at *
     refine unstop (wpList_load_row rfl 105 (.tmp 3) rfl w.heap.size rfl 105 (wArr L) (0,0) _ (hS.blk 1 rfl) Tryd.underlying105 rfl (by
      have e:(wArr L).size=80:=by unfold wArr; have:=Hl80.out; simp; omega
      rw [e]; exact info80) ?_)
     go_wp2_with (at_builtin; refine stopAt ?_)
     go_loopw [80] (fun i wr=>∃ (k:Nat) (s:ShSt),k≤80∧i=.int .i64 k∧s.ok∧Hid (rnds 0 L h=rnds k (L.drop k) s)∧SepF (fun k=>k=gh) w wr [.blk gh 104 (stCells h),.blk w.heap.size 105 (wArr L),.blk ga 104 (stCells s)])
      (fun i _=>80 - (intOf i).toNat)
     case atStart=>exact ⟨0,h,by omega,rfl,hok,hide (by rw [List.drop_zero]),hS⟩
     case round =>
      clear hS
      obtain ⟨j,s,hj,rfl,hsok,HR,hS⟩:=hrel
      by_cases hj80:j<80
      ·skip
       obtain ⟨k1,k2,k3,k4,k5⟩:=hsok
       have HX:=hide (hall.getD j)
       have HR2:=hide (show rnds 0 L h=rnds (j+1) (L.drop (j+1)) (rnd j (L.getD j 0) s) by
        have hjl:j<L.length:=by have:=Hl80.out; omega
        rw [HR.out,rnds_at L j j s hjl,List.getD_eq_getElem?_getD,List.getElem?_eq_getElem hjl]; rfl)
       have hix:=index80 L j Hl80.out hj80
       have g0:wr.cell? ⟨ga,0,none⟩=some (.int .u32 (s.a:Int)):=hS.cell 2 0 rfl rfl
       have g1:wr.cell? ⟨ga,1,none⟩=some (.int .u32 (s.b:Int)):=hS.cell 2 1 rfl rfl
       have g2:wr.cell? ⟨ga,2,none⟩=some (.int .u32 (s.c:Int)):=hS.cell 2 2 rfl rfl
       have g3:wr.cell? ⟨ga,3,none⟩=some (.int .u32 (s.d:Int)):=hS.cell 2 3 rfl rfl
       have g4:wr.cell? ⟨ga,4,none⟩=some (.int .u32 (s.e:Int)):=hS.cell 2 4 rfl rfl
       generalize L.getD j 0=x at *
       have hPart:=hide (shaPart j s.b s.c s.d wr hj80 k2 k3 k4)
       have hF:=stepF_lt j s.b s.c s.d k2 k3 k4
       have hK:=stepK_lt j
       go_wp2_with (at_builtin; refine stopAt ?_)
       refine hPart.out.mono ?_
       rintro e w' ⟨rfl,rfl⟩
       have R5:=hide (fun w=>rotL5 s.a w k1)
       have R30:=hide (fun w=>rotL30 s.b w k2)
       go_wp2_with (at_builtin; refine stopAt ?_)
       apply wp_meet
       ·go_region_held3 (fun W' => W'.cell? ⟨ga,0,none⟩=some (.int .u32 (s.a:Int))∧W'.cell? ⟨ga,1,none⟩=some (.int .u32 (s.b:Int))∧W'.cell? ⟨ga,2,none⟩=some (.int .u32 (s.c:Int))∧W'.cell? ⟨ga,3,none⟩=some (.int .u32 (s.d:Int))∧W'.cell? ⟨ga,4,none⟩=some (.int .u32 (s.e:Int))) (exact ⟨g0,g1,g2,g3,g4⟩) (first | (go_at_call 64; (with_reducible refine (R5.out _).mono ?_); rintro e w' ⟨rfl,rfl⟩))
        all_goals exact ⟨rfl,rfl,rfl⟩
       have hsum:IntKind.u32.wrap (IntKind.u32.wrap (IntKind.u32.wrap (IntKind.u32.wrap (((rot s.a 5:Nat):Int)+((stepF j s.b s.c s.d:Nat):Int))+(s.e:Int))+((stepK j:Nat):Int))+(x:Int))=(((rnd j x s).a:Nat):Int):=by
        simp only [IntKind.wrap_u32',rnd]
        omega
       rw [hsum]
       have hta:=hide (rnd_ok j x s ⟨k1,k2,k3,k4,k5⟩)
       have hstc:=hide (show (#[.int .u32 (((rnd j x s).a:Nat):Int),.int .u32 (s.a:Int),.int .u32 ((rot s.b 30:Nat):Int),.int .u32 (s.c:Int),.int .u32 (s.d:Int)]:Array Value)=stCells (rnd j x s) from rfl)
       clear hsum hF hK
       generalize (rnd j x s).a=ta at *
       replace hS:=hS.drew
       generalize wr.drew=w5 at *
       have q0:w5.cell? ⟨ga,0,none⟩=some (.int .u32 (s.a:Int)):=hS.cell 2 0 rfl rfl
       have q1:w5.cell? ⟨ga,1,none⟩=some (.int .u32 (s.b:Int)):=hS.cell 2 1 rfl rfl
       have q2:w5.cell? ⟨ga,2,none⟩=some (.int .u32 (s.c:Int)):=hS.cell 2 2 rfl rfl
       have q3:w5.cell? ⟨ga,3,none⟩=some (.int .u32 (s.d:Int)):=hS.cell 2 3 rfl rfl
       clear g0 g1 g2 g3 g4
       go_wp2_with (at_builtin; refine stopAt ?_)
       go_still_tail 11,(by kernel_rfl)
       still_call ((R30.out _).mono fun _ _ h=>⟨h.1,h.2.symm⟩)
       repeat still_step
       refine wpStill_nil ?_
       change wpList _ _ _ _ _ w5.drew
       replace hS:=hS.drew
       clear q0 q1 q2 q3
       generalize w5.drew=w6 at *
       have g0:w6.cell? ⟨ga,0,none⟩=some (.int .u32 (s.a:Int)):=hS.cell 2 0 rfl rfl
       have g1:w6.cell? ⟨ga,1,none⟩=some (.int .u32 (s.b:Int)):=hS.cell 2 1 rfl rfl
       have g2:w6.cell? ⟨ga,2,none⟩=some (.int .u32 (s.c:Int)):=hS.cell 2 2 rfl rfl
       have g3:w6.cell? ⟨ga,3,none⟩=some (.int .u32 (s.d:Int)):=hS.cell 2 3 rfl rfl
       have g4:w6.cell? ⟨ga,4,none⟩=some (.int .u32 (s.e:Int)):=hS.cell 2 4 rfl rfl
       have f0:=hS.frozen 2 0 rfl
       have f1:=hS.frozen 2 1 rfl
       have f2:=hS.frozen 2 2 rfl
       have f3:=hS.frozen 2 3 rfl
       have f4:=hS.frozen 2 4 rfl
       go_wp2_with (at_builtin; refine stopAt ?_)
       go_roundw
       case rel =>
        replace hS:=((((hS.store 2 (j:=0) rfl (.int .u32 (ta:Int))).store 2 (j:=1) rfl (.int .u32 (s.a:Int))).store 2 (j:=2) rfl (.int .u32 ((rot s.b 30:Nat):Int))).store 2 (j:=3) rfl (.int .u32 (s.c:Int))).store 2 (j:=4) rfl (.int .u32 (s.d:Int))
        unfold stCells at hS
        simp only [List.set_cons_zero,List.set_cons_succ,List.setIfInBounds_toArray] at hS
        rw [hstc.out] at hS
        exact ⟨j+1,rnd j x s,by omega,by go_num,hta.out,HR2,hS⟩
       case measure=>simp [intOf]; omega
      ·have hjl:L.length≤j:=by have:=Hl80.out; omega
       have hfin:=HR.out
       rw [List.drop_eq_nil_of_le hjl,rnds_nil,← HS.out] at hfin
       have hjge:(80:Int)≤(j:Int):=by omega
       have HB:=hide (blockStep_def p h)
       rw [hfin] at HB
       clear HR hj hj80 hjl HS hall Hl80 hfin
       go_wp2_with (at_builtin; refine stopAt ?_)
       go_loopw [119] (fun i wr=>∃ k:Nat,k≤5∧i=.int .i64 k∧SepF (fun k=>k=gh) w wr [.blk gh 104 (mixCells k h s),.blk ga 104 (stCells s)])
        (fun i _=>5 - (intOf i).toNat)
       case atStart=>exact ⟨0,by omega,rfl,by
        have hS:=hS.pick [0,2] (by decide); simp only [List.cons_append,List.nil_append,List.set_cons_zero,List.set_cons_succ,List.map_cons,List.map_nil,List.getD_cons_zero,List.getD_cons_succ] at hS
        exact hS⟩
       case round =>
        clear hS
        obtain ⟨k,hk,rfl,hS⟩:=hrel
        have a0:wr.cell? ⟨ga,0,none⟩=some (.int .u32 (s.a:Int)):=hS.cell 1 0 rfl rfl
        have a1:wr.cell? ⟨ga,1,none⟩=some (.int .u32 (s.b:Int)):=hS.cell 1 1 rfl rfl
        have a2:wr.cell? ⟨ga,2,none⟩=some (.int .u32 (s.c:Int)):=hS.cell 1 2 rfl rfl
        have a3:wr.cell? ⟨ga,3,none⟩=some (.int .u32 (s.d:Int)):=hS.cell 1 3 rfl rfl
        have a4:wr.cell? ⟨ga,4,none⟩=some (.int .u32 (s.e:Int)):=hS.cell 1 4 rfl rfl
        match k,hk with
        | 0,_ =>
         have g0:wr.cell? ⟨gh,0,none⟩=some (.int .u32 (h.a:Int)):=hS.cell 0 0 rfl rfl
         have f0:=hS.frozen 0 0 rfl
         have hsm:IntKind.u32.wrap ((h.a:Int)+(s.a:Int))=((h.a:Int)+(s.a:Int)) % 4294967296:=IntKind.wrap_u32' _
         go_wp2_with (at_builtin; refine stopAt ?_)
         go_region
         replace hS:=(hS.store 0 (j:=0) rfl (.int .u32 (((h.a:Int)+(s.a:Int)) % 4294967296))).drew
         simp only [List.cons_append,List.nil_append,List.set_cons_zero,List.set_cons_succ,List.map_cons,List.map_nil,List.getD_cons_zero,List.getD_cons_succ,Array.toList] at hS
         have hmx:(mixCells 0 h s).setIfInBounds 0 (.int .u32 (((h.a:Int)+(s.a:Int)) % 4294967296))=mixCells (0+1) h s:=by
          have e:((h.a:Int)+(s.a:Int)) % 4294967296=(((h.a+s.a) % 4294967296:Nat):Int):=by omega
          rw [e]; rfl
         rw [hmx] at hS
         clear g0 f0 hsm hmx a0 a1 a2 a3 a4
         generalize (wr.setCell _ _).drew=wz at hS ⊢
         go_wp2
         go_roundw
         case rel=>exact ⟨0+1,by omega,rfl,hS⟩
         case measure=>simp [intOf]
        | 1,_ =>
         have g0:wr.cell? ⟨gh,1,none⟩=some (.int .u32 (h.b:Int)):=hS.cell 0 1 rfl rfl
         have f0:=hS.frozen 0 1 rfl
         have hsm:IntKind.u32.wrap ((h.b:Int)+(s.b:Int))=((h.b:Int)+(s.b:Int)) % 4294967296:=IntKind.wrap_u32' _
         go_wp2_with (at_builtin; refine stopAt ?_)
         go_region
         replace hS:=(hS.store 0 (j:=1) rfl (.int .u32 (((h.b:Int)+(s.b:Int)) % 4294967296))).drew
         simp only [List.cons_append,List.nil_append,List.set_cons_zero,List.set_cons_succ,List.map_cons,List.map_nil,List.getD_cons_zero,List.getD_cons_succ,Array.toList] at hS
         have hmx:(mixCells 1 h s).setIfInBounds 1 (.int .u32 (((h.b:Int)+(s.b:Int)) % 4294967296))=mixCells (1+1) h s:=by
          have e:((h.b:Int)+(s.b:Int)) % 4294967296=(((h.b+s.b) % 4294967296:Nat):Int):=by omega
          rw [e]; rfl
         rw [hmx] at hS
         clear g0 f0 hsm hmx a0 a1 a2 a3 a4
         generalize (wr.setCell _ _).drew=wz at hS ⊢
         go_wp2
         go_roundw
         case rel=>exact ⟨1+1,by omega,rfl,hS⟩
         case measure=>simp [intOf]
        | 2,_ =>
         have g0:wr.cell? ⟨gh,2,none⟩=some (.int .u32 (h.c:Int)):=hS.cell 0 2 rfl rfl
         have f0:=hS.frozen 0 2 rfl
         have hsm:IntKind.u32.wrap ((h.c:Int)+(s.c:Int))=((h.c:Int)+(s.c:Int)) % 4294967296:=IntKind.wrap_u32' _
         go_wp2_with (at_builtin; refine stopAt ?_)
         go_region
         replace hS:=(hS.store 0 (j:=2) rfl (.int .u32 (((h.c:Int)+(s.c:Int)) % 4294967296))).drew
         simp only [List.cons_append,List.nil_append,List.set_cons_zero,List.set_cons_succ,List.map_cons,List.map_nil,List.getD_cons_zero,List.getD_cons_succ,Array.toList] at hS
         have hmx:(mixCells 2 h s).setIfInBounds 2 (.int .u32 (((h.c:Int)+(s.c:Int)) % 4294967296))=mixCells (2+1) h s:=by
          have e:((h.c:Int)+(s.c:Int)) % 4294967296=(((h.c+s.c) % 4294967296:Nat):Int):=by omega
          rw [e]; rfl
         rw [hmx] at hS
         clear g0 f0 hsm hmx a0 a1 a2 a3 a4
         generalize (wr.setCell _ _).drew=wz at hS ⊢
         go_wp2
         go_roundw
         case rel=>exact ⟨2+1,by omega,rfl,hS⟩
         case measure=>simp [intOf]
        | 3,_ =>
         have g0:wr.cell? ⟨gh,3,none⟩=some (.int .u32 (h.d:Int)):=hS.cell 0 3 rfl rfl
         have f0:=hS.frozen 0 3 rfl
         have hsm:IntKind.u32.wrap ((h.d:Int)+(s.d:Int))=((h.d:Int)+(s.d:Int)) % 4294967296:=IntKind.wrap_u32' _
         go_wp2_with (at_builtin; refine stopAt ?_)
         go_region
         replace hS:=(hS.store 0 (j:=3) rfl (.int .u32 (((h.d:Int)+(s.d:Int)) % 4294967296))).drew
         simp only [List.cons_append,List.nil_append,List.set_cons_zero,List.set_cons_succ,List.map_cons,List.map_nil,List.getD_cons_zero,List.getD_cons_succ,Array.toList] at hS
         have hmx:(mixCells 3 h s).setIfInBounds 3 (.int .u32 (((h.d:Int)+(s.d:Int)) % 4294967296))=mixCells (3+1) h s:=by
          have e:((h.d:Int)+(s.d:Int)) % 4294967296=(((h.d+s.d) % 4294967296:Nat):Int):=by omega
          rw [e]; rfl
         rw [hmx] at hS
         clear g0 f0 hsm hmx a0 a1 a2 a3 a4
         generalize (wr.setCell _ _).drew=wz at hS ⊢
         go_wp2
         go_roundw
         case rel=>exact ⟨3+1,by omega,rfl,hS⟩
         case measure=>simp [intOf]
        | 4,_ =>
         have g0:wr.cell? ⟨gh,4,none⟩=some (.int .u32 (h.e:Int)):=hS.cell 0 4 rfl rfl
         have f0:=hS.frozen 0 4 rfl
         have hsm:IntKind.u32.wrap ((h.e:Int)+(s.e:Int))=((h.e:Int)+(s.e:Int)) % 4294967296:=IntKind.wrap_u32' _
         go_wp2_with (at_builtin; refine stopAt ?_)
         go_region
         replace hS:=(hS.store 0 (j:=4) rfl (.int .u32 (((h.e:Int)+(s.e:Int)) % 4294967296))).drew
         simp only [List.cons_append,List.nil_append,List.set_cons_zero,List.set_cons_succ,List.map_cons,List.map_nil,List.getD_cons_zero,List.getD_cons_succ,Array.toList] at hS
         have hmx:(mixCells 4 h s).setIfInBounds 4 (.int .u32 (((h.e:Int)+(s.e:Int)) % 4294967296))=mixCells (4+1) h s:=by
          have e:((h.e:Int)+(s.e:Int)) % 4294967296=(((h.e+s.e) % 4294967296:Nat):Int):=by omega
          rw [e]; rfl
         rw [hmx] at hS
         clear g0 f0 hsm hmx a0 a1 a2 a3 a4
         generalize (wr.setCell _ _).drew=wz at hS ⊢
         go_wp2
         go_roundw
         case rel=>exact ⟨4+1,by omega,rfl,hS⟩
         case measure=>simp [intOf]
        | 5,_ =>
         go_wp2
         have hbl:Blk wr gh 104 (stCells (blockStep p h)):=by
          rw [HB.out]; exact hS.blk 0 rfl
         have hgr:=hS.kept.grown
         clear hS
         go_end0
         exact ⟨⟨_,rfl⟩,hbl,hgr⟩
end Go.Proofs.YtakolikdebfkeaaDoor
namespace Go.Proofs.YtakolikdebfkeaaDoor
section
variable {P : Program} {ops : Array Oper} {Q : Exit → Act → World → Prop} {md : Region.Mode} {S : World → Prop}
end
end Go.Proofs.YtakolikdebfkeaaDoor
