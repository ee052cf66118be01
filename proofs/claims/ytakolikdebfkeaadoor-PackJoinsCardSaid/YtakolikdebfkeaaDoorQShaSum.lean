import Derived.Test.YtakolikdebfkeaaDoorQParse
import Derived.Test.YtakolikdebfkeaaDoorQRange
import Derived.Test.YtakolikdebfkeaaDoorQMem
import Derived.Shelf.Abstract
import Derived.Laws.EntriesVeiled
open Nat (reduceDiv reduceMod reduceSub reduceAdd reduceLeDiff reduceEqDiff)
set_option linter.all false
namespace Go.Proofs.YtakolikdebfkeaaDoor
open Go.RowKit
attribute [local go_sem] wide_depth wide_fn
attribute [local go_sem] Oper.semAt_some
theorem st0_ok:st0.ok:=⟨by decide,by decide,by decide,by decide,by decide⟩
theorem byte_128:byteOf 128=128:=rfl
theorem byte_0:byteOf 0=0:=rfl
theorem pad_step (m k:Nat) (h:k<padZ m):(m+1+k) % 64≠56:=by unfold padZ at h; omega
theorem pad_end (m k:Nat) (h:k=padZ m):(m+1+k) % 64=56:=by unfold padZ at h; omega
theorem padZ_lt (m:Nat):padZ m<64:=Nat.mod_lt _ (by omega)
theorem be8_take (n i:Nat) (h:i<8):(be 8 n).take (i+1)=(be 8 n).take i ++ [byteOf ((n / 256 ^ (7 - i) % 256:Nat):Int)]:=by
 rw [List.take_add_one,be_get 8 n i h]
 rfl
theorem padded_def (l:List UInt8):padded l=l ++ [128] ++ List.replicate (padZ l.length) 0 ++ be 8 (8 * l.length):=by unfold padded; rfl
def idArr (l:List UInt8):Array Value:=(l.map U ++ List.replicate (20 - l.length) (Value.int .u8 0)).toArray
theorem z20_id:z20=idArr []:=by unfold z20 idArr; simp
theorem idArr_size (l:List UInt8) (h:l.length≤20):(idArr l).size=20:=by unfold idArr; simp; omega
theorem idArr_one (l:List UInt8):(idArr l).all (·.oneCell')=true:=by
 unfold idArr
 rw [Array.all_eq_true_iff_forall_mem]
 intro v hv
 rcases List.mem_append.1 (by simpa using hv:v∈l.map U ++ List.replicate (20 - l.length) (Value.int .u8 0)) with h | h
 ·exact U_one l v h
 ·rw [(List.mem_replicate.1 h).2]; rfl
theorem idArr_at2 (l:List UInt8) (i:Nat) (hi:i<20) (hl:l.length≤20):∃ v,(idArr l)[i]?=some v :=
 ⟨_,Array.getElem?_eq_getElem (by rw [idArr_size l hl]; exact hi)⟩
theorem idArr_step (l:List UInt8) (k:Nat) (x:UInt8) (E:Int) (hk:l.length=k) (h:k<20) (hE:E=(x.toNat:Int)):(idArr l).setIfInBounds k (.int .u8 E)=idArr (l ++ [x]):=by
 subst hE
 subst hk
 unfold idArr
 rw [List.setIfInBounds_toArray]
 congr 1
 have e:20 - l.length=(20 - (l ++ [x]).length)+1:=by simp; omega
 rw [e,List.replicate_succ,List.set_append]
 simp [U]
theorem toNat_byteOf (n d:Nat):((byteOf ((n / d % 256:Nat):Int)).toNat:Int)=((n / d % 256:Nat):Int):=byteOf_nat _ (by omega) (by omega)
set_option maxHeartbeats 2000000 in
set_option maxRecDepth 100000 in
theorem shaSum (A:Option Addr) (n c:Nat) (xs:List BRec) (w:World) (hn:n=xs.length) (hr:RdS w A xs) (hl:xs.length≤1099511627776) (hb:(flatR xs).length≤1099511627776) :
    Calls Tryd.prog 45 #[.slice A n c] w fun e w' => e=.returned (.agg ((sha (flatR xs)).map U).toArray)∧Below w.heap.size w w' := by
  subst hn
  have hz:=zero20
  refine calls_of_wp_marks Tryd.func45 rfl ?_
  simp only [Tryd.ntmps45,List.size_toArray,List.length_cons,List.length_nil,reduceAdd,reduceSub,Array.replicate_succ,Array.replicate_zero,List.push_toArray,List.append_toArray,List.nil_append,List.cons_append]
  go_wp2_with (at_builtin; refine stopAt ?_)
  have hS:=(Sep.start w).allocC z20 49
  simp only [List.cons_append,List.nil_append,List.set_cons_zero,List.set_cons_succ,List.map_cons,List.map_nil,List.getD_cons_zero,List.getD_cons_succ,Array.toList] at hS
  refine (sliceConcat A _ c xs _ rfl (hr.ext hS.below) hl hb).mono ?_
  rintro e w1 ⟨A1,c1,rfl,o1,b1⟩
  replace hS:=hS.call b1 (x:=.row 5 A1 c1 (flatR xs)) o1
  simp only [List.cons_append,List.nil_append,List.set_cons_zero,List.set_cons_succ,List.map_cons,List.map_nil,List.getD_cons_zero,List.getD_cons_succ,Array.toList] at hS
  clear o1 b1
  generalize hfl:flatR xs=l at *
  have Hfl:=hide hfl
  clear hfl
  obtain ⟨m,hm⟩:∃ m,m=l.length:=⟨_,rfl⟩
  rw [← hm] at hb ⊢
  have Hm:=hide hm
  clear hm
  go_wp2_with (at_builtin; refine stopAt ?_)
  refine unstop (wpList_appS (hS.alloc _) 1 bytC rfl rfl rfl (Rd.one _ _ _ (by omega) (by omega)) rfl rfl Hm.out rfl (by rw [← Hm.out]; simp; omega) ?_)
  clear hS
  intro A2 c2 w2 hS
  simp only [List.cons_append,List.nil_append,List.set_cons_zero,List.set_cons_succ,List.map_cons,List.map_nil,List.getD_cons_zero,List.getD_cons_succ,Array.toList] at hS
  rw [byte_128] at hS ⊢
  have hl1:(l ++ [128]).length=m+1:=by rw [List.length_append,← Hm.out]; rfl
  rw [hl1]
  clear hl1
  go_wp2_with (at_builtin; refine stopAt ?_)
  go_loopw [3] (fun v wr=>∃ (k N:Nat) (A' : Option Addr) (c' : Nat),k≤padZ m∧Hid (N=m+1+k)∧v=.slice A' N c' ∧ Sep w.heap.size w wr [.blk w.heap.size 49 z20,.row 5 A' c' (l ++ [128] ++ List.replicate k 0)])
    (fun v _=>match v with | .slice _ N _=>m+100 - N | _=>0)
  case atStart=>exact ⟨0,m+1,A2,c2,Nat.zero_le _,hide rfl,rfl,by simpa using hS⟩
  case round =>
    clear hS
    obtain ⟨k,N,A',c',hk,HN,rfl,hS⟩:=hrel
    have hpz:=padZ_lt m
    by_cases hlt:k<padZ m
    · have ht : ((N : Int) % 64 != 56) = true := by rw [bne_iff_ne]; have := pad_step m k hlt; have := HN.out; omega
      have hlen:(l ++ [128] ++ List.replicate k 0).length=N:=by simp; have:=HN.out; have:=Hm.out; omega
      have HL:=hide hlen.symm
      have hNb:N≤1099511628000:=by have:=HN.out; omega
      clear hlen
      go_wp2_with (at_builtin; refine stopAt ?_)
      refine unstop (wpList_appS (hS.alloc _) 1 bytC rfl rfl rfl (Rd.one _ _ _ (by omega) (by omega)) rfl rfl HL.out rfl (by rw [← HL.out]; simp; omega) ?_)
      clear hS
      intro A3 c3 w3 hS
      simp only [List.cons_append,List.nil_append,List.set_cons_zero,List.set_cons_succ,List.map_cons,List.map_nil,List.getD_cons_zero,List.getD_cons_succ,Array.toList] at hS
      rw [byte_0] at hS ⊢
      have hl2:(l ++ [128] ++ List.replicate k 0 ++ [0]).length=N+1:=by rw [List.length_append,← HL.out]; rfl
      have hl3:l ++ [128] ++ List.replicate k 0 ++ [0]=l ++ [128] ++ List.replicate (k+1) 0:=by rw [List.replicate_succ',← List.append_assoc]
      rw [hl2]
      rw [hl3] at hS
      clear hl2 hl3 ht
      go_wp2
      go_roundw
      case rel=>exact ⟨k+1,N+1,A3,c3,by omega,hide (by have:=HN.out; omega),rfl,hS⟩
      case measure=>show m+100 - (N+1)<m+100 - N; have:=HN.out; omega
    · obtain rfl : k = padZ m := by omega
      have ht:((N:Int) % 64 != 56)=false:=by rw [bne_eq_false_iff_eq]; have:=pad_end m _ rfl; have:=HN.out; omega
      have hNb:N≤1099511628000:=by have:=HN.out; omega
      have HL:=hide (show N=(l ++ [128] ++ List.replicate (padZ m) 0).length by simp; have:=HN.out; have:=Hm.out; omega)
      have HP:=hide (padded_def l)
      rw [← Hm.out] at HP
      generalize l ++ [128] ++ List.replicate (padZ m) 0=P at *
      clear hlt hk
      go_wp2_with (at_builtin; refine stopAt ?_)
      go_loopw [3,27] (fun v i wr=>∃ (k:Nat) (A' : Option Addr) (c' : Nat),k≤8∧i=.int .i64 k∧v=.slice A' (N+k) c' ∧ Sep w.heap.size w wr [.blk w.heap.size 49 z20,.row 5 A' c' (P ++ (be 8 (8 * m)).take k)])
        (fun _ i _=>8 - (intOf i).toNat)
      case atStart=>exact ⟨0,A',c',by omega,rfl,rfl,by simpa using hS⟩
      case round =>
        clear hS
        obtain ⟨k,A',c',hk,rfl,rfl,hS⟩:=hrel
        match k,hk with
        | 0,_ =>
          have hq:(m:Int) * 8 / 72057594037927936 % 256=((8 * m / 256 ^ (7 - 0) % 256:Nat):Int):=by
            rw [show (256:Nat) ^ (7 - 0)=72057594037927936 by decide]; omega
          have hb:=hide (be8_take (8 * m) 0 (by omega))
          have hlen:=hide (show N+0=(P ++ (be 8 (8 * m)).take 0).length by rw [List.length_append,← HL.out,List.length_take,be_len]; omega)
          have HQ:=hide hq
          clear hq
          go_wp2_with (at_builtin; refine stopAt ?_)
          refine unstop (wpList_appS (hS.alloc _) 1 bytC rfl rfl rfl (Rd.one _ _ _ (by omega) (by omega)) rfl rfl hlen.out rfl (by rw [← hlen.out]; simp; omega) ?_)
          clear hS
          intro A3 c3 w3 hS
          simp only [List.cons_append,List.nil_append,List.set_cons_zero,List.set_cons_succ,List.map_cons,List.map_nil,List.getD_cons_zero,List.getD_cons_succ,Array.toList] at hS
          first
            | rw [HQ.out] at hS
            | (have hq2:(m:Int) * 8 / 72057594037927936=((8 * m / 256 ^ (7 - 0) % 256:Nat):Int):=by
                rw [show (256 : Nat) ^ (7 - 0) = 72057594037927936 by decide]; omega
               rw [hq2] at hS
               clear hq2)
            | (have hq2:(m:Int) * 8 % 256=((8 * m / 256 ^ (7 - 0) % 256:Nat):Int):=by
                rw [show (256 : Nat) ^ (7 - 0) = 72057594037927936 by decide]; omega
               rw [hq2] at hS
               clear hq2)
          rw [List.append_assoc,← hb.out] at hS
          have hl2:∀ y:UInt8,(P ++ (be 8 (8 * m)).take 0 ++ [y]).length=N+0+1:=fun y=>by rw [List.length_append,← hlen.out]; rfl
          rw [hl2]
          clear hl2 hlen hb HQ
          go_wp2
          go_roundw
          case rel=>exact ⟨0+1,A3,c3,by omega,rfl,rfl,hS⟩
          case measure=>simp [intOf]
        | 1,_ =>
          have hq:(m:Int) * 8 / 281474976710656 % 256=((8 * m / 256 ^ (7 - 1) % 256:Nat):Int):=by
            rw [show (256:Nat) ^ (7 - 1)=281474976710656 by decide]; omega
          have hb:=hide (be8_take (8 * m) 1 (by omega))
          have hlen:=hide (show N+1=(P ++ (be 8 (8 * m)).take 1).length by rw [List.length_append,← HL.out,List.length_take,be_len]; omega)
          have HQ:=hide hq
          clear hq
          go_wp2_with (at_builtin; refine stopAt ?_)
          refine unstop (wpList_appS (hS.alloc _) 1 bytC rfl rfl rfl (Rd.one _ _ _ (by omega) (by omega)) rfl rfl hlen.out rfl (by rw [← hlen.out]; simp; omega) ?_)
          clear hS
          intro A3 c3 w3 hS
          simp only [List.cons_append,List.nil_append,List.set_cons_zero,List.set_cons_succ,List.map_cons,List.map_nil,List.getD_cons_zero,List.getD_cons_succ,Array.toList] at hS
          first
            | rw [HQ.out] at hS
            | (have hq2:(m:Int) * 8 / 281474976710656=((8 * m / 256 ^ (7 - 1) % 256:Nat):Int):=by
                rw [show (256 : Nat) ^ (7 - 1) = 281474976710656 by decide]; omega
               rw [hq2] at hS
               clear hq2)
            | (have hq2:(m:Int) * 8 % 256=((8 * m / 256 ^ (7 - 1) % 256:Nat):Int):=by
                rw [show (256 : Nat) ^ (7 - 1) = 281474976710656 by decide]; omega
               rw [hq2] at hS
               clear hq2)
          rw [List.append_assoc,← hb.out] at hS
          have hl2:∀ y:UInt8,(P ++ (be 8 (8 * m)).take 1 ++ [y]).length=N+1+1:=fun y=>by rw [List.length_append,← hlen.out]; rfl
          rw [hl2]
          clear hl2 hlen hb HQ
          go_wp2
          go_roundw
          case rel=>exact ⟨1+1,A3,c3,by omega,rfl,rfl,hS⟩
          case measure=>simp [intOf]
        | 2,_ =>
          have hq:(m:Int) * 8 / 1099511627776 % 256=((8 * m / 256 ^ (7 - 2) % 256:Nat):Int):=by
            rw [show (256:Nat) ^ (7 - 2)=1099511627776 by decide]; omega
          have hb:=hide (be8_take (8 * m) 2 (by omega))
          have hlen:=hide (show N+2=(P ++ (be 8 (8 * m)).take 2).length by rw [List.length_append,← HL.out,List.length_take,be_len]; omega)
          have HQ:=hide hq
          clear hq
          go_wp2_with (at_builtin; refine stopAt ?_)
          refine unstop (wpList_appS (hS.alloc _) 1 bytC rfl rfl rfl (Rd.one _ _ _ (by omega) (by omega)) rfl rfl hlen.out rfl (by rw [← hlen.out]; simp; omega) ?_)
          clear hS
          intro A3 c3 w3 hS
          simp only [List.cons_append,List.nil_append,List.set_cons_zero,List.set_cons_succ,List.map_cons,List.map_nil,List.getD_cons_zero,List.getD_cons_succ,Array.toList] at hS
          first
            | rw [HQ.out] at hS
            | (have hq2:(m:Int) * 8 / 1099511627776=((8 * m / 256 ^ (7 - 2) % 256:Nat):Int):=by
                rw [show (256 : Nat) ^ (7 - 2) = 1099511627776 by decide]; omega
               rw [hq2] at hS
               clear hq2)
            | (have hq2:(m:Int) * 8 % 256=((8 * m / 256 ^ (7 - 2) % 256:Nat):Int):=by
                rw [show (256 : Nat) ^ (7 - 2) = 1099511627776 by decide]; omega
               rw [hq2] at hS
               clear hq2)
          rw [List.append_assoc,← hb.out] at hS
          have hl2:∀ y:UInt8,(P ++ (be 8 (8 * m)).take 2 ++ [y]).length=N+2+1:=fun y=>by rw [List.length_append,← hlen.out]; rfl
          rw [hl2]
          clear hl2 hlen hb HQ
          go_wp2
          go_roundw
          case rel=>exact ⟨2+1,A3,c3,by omega,rfl,rfl,hS⟩
          case measure=>simp [intOf]
        | 3,_ =>
          have hq:(m:Int) * 8 / 4294967296 % 256=((8 * m / 256 ^ (7 - 3) % 256:Nat):Int):=by
            rw [show (256:Nat) ^ (7 - 3)=4294967296 by decide]; omega
          have hb:=hide (be8_take (8 * m) 3 (by omega))
          have hlen:=hide (show N+3=(P ++ (be 8 (8 * m)).take 3).length by rw [List.length_append,← HL.out,List.length_take,be_len]; omega)
          have HQ:=hide hq
          clear hq
          go_wp2_with (at_builtin; refine stopAt ?_)
          refine unstop (wpList_appS (hS.alloc _) 1 bytC rfl rfl rfl (Rd.one _ _ _ (by omega) (by omega)) rfl rfl hlen.out rfl (by rw [← hlen.out]; simp; omega) ?_)
          clear hS
          intro A3 c3 w3 hS
          simp only [List.cons_append,List.nil_append,List.set_cons_zero,List.set_cons_succ,List.map_cons,List.map_nil,List.getD_cons_zero,List.getD_cons_succ,Array.toList] at hS
          first
            | rw [HQ.out] at hS
            | (have hq2:(m:Int) * 8 / 4294967296=((8 * m / 256 ^ (7 - 3) % 256:Nat):Int):=by
                rw [show (256 : Nat) ^ (7 - 3) = 4294967296 by decide]; omega
               rw [hq2] at hS
               clear hq2)
            | (have hq2:(m:Int) * 8 % 256=((8 * m / 256 ^ (7 - 3) % 256:Nat):Int):=by
                rw [show (256 : Nat) ^ (7 - 3) = 4294967296 by decide]; omega
               rw [hq2] at hS
               clear hq2)
          rw [List.append_assoc,← hb.out] at hS
          have hl2:∀ y:UInt8,(P ++ (be 8 (8 * m)).take 3 ++ [y]).length=N+3+1:=fun y=>by rw [List.length_append,← hlen.out]; rfl
          rw [hl2]
          clear hl2 hlen hb HQ
          go_wp2
          go_roundw
          case rel=>exact ⟨3+1,A3,c3,by omega,rfl,rfl,hS⟩
          case measure=>simp [intOf]
        | 4,_ =>
          have hq:(m:Int) * 8 / 16777216 % 256=((8 * m / 256 ^ (7 - 4) % 256:Nat):Int):=by
            rw [show (256:Nat) ^ (7 - 4)=16777216 by decide]; omega
          have hb:=hide (be8_take (8 * m) 4 (by omega))
          have hlen:=hide (show N+4=(P ++ (be 8 (8 * m)).take 4).length by rw [List.length_append,← HL.out,List.length_take,be_len]; omega)
          have HQ:=hide hq
          clear hq
          go_wp2_with (at_builtin; refine stopAt ?_)
          refine unstop (wpList_appS (hS.alloc _) 1 bytC rfl rfl rfl (Rd.one _ _ _ (by omega) (by omega)) rfl rfl hlen.out rfl (by rw [← hlen.out]; simp; omega) ?_)
          clear hS
          intro A3 c3 w3 hS
          simp only [List.cons_append,List.nil_append,List.set_cons_zero,List.set_cons_succ,List.map_cons,List.map_nil,List.getD_cons_zero,List.getD_cons_succ,Array.toList] at hS
          first
            | rw [HQ.out] at hS
            | (have hq2:(m:Int) * 8 / 16777216=((8 * m / 256 ^ (7 - 4) % 256:Nat):Int):=by
                rw [show (256 : Nat) ^ (7 - 4) = 16777216 by decide]; omega
               rw [hq2] at hS
               clear hq2)
            | (have hq2:(m:Int) * 8 % 256=((8 * m / 256 ^ (7 - 4) % 256:Nat):Int):=by
                rw [show (256 : Nat) ^ (7 - 4) = 16777216 by decide]; omega
               rw [hq2] at hS
               clear hq2)
          rw [List.append_assoc,← hb.out] at hS
          have hl2:∀ y:UInt8,(P ++ (be 8 (8 * m)).take 4 ++ [y]).length=N+4+1:=fun y=>by rw [List.length_append,← hlen.out]; rfl
          rw [hl2]
          clear hl2 hlen hb HQ
          go_wp2
          go_roundw
          case rel=>exact ⟨4+1,A3,c3,by omega,rfl,rfl,hS⟩
          case measure=>simp [intOf]
        | 5,_ =>
          have hq:(m:Int) * 8 / 65536 % 256=((8 * m / 256 ^ (7 - 5) % 256:Nat):Int):=by
            rw [show (256:Nat) ^ (7 - 5)=65536 by decide]; omega
          have hb:=hide (be8_take (8 * m) 5 (by omega))
          have hlen:=hide (show N+5=(P ++ (be 8 (8 * m)).take 5).length by rw [List.length_append,← HL.out,List.length_take,be_len]; omega)
          have HQ:=hide hq
          clear hq
          go_wp2_with (at_builtin; refine stopAt ?_)
          refine unstop (wpList_appS (hS.alloc _) 1 bytC rfl rfl rfl (Rd.one _ _ _ (by omega) (by omega)) rfl rfl hlen.out rfl (by rw [← hlen.out]; simp; omega) ?_)
          clear hS
          intro A3 c3 w3 hS
          simp only [List.cons_append,List.nil_append,List.set_cons_zero,List.set_cons_succ,List.map_cons,List.map_nil,List.getD_cons_zero,List.getD_cons_succ,Array.toList] at hS
          first
            | rw [HQ.out] at hS
            | (have hq2:(m:Int) * 8 / 65536=((8 * m / 256 ^ (7 - 5) % 256:Nat):Int):=by
                rw [show (256 : Nat) ^ (7 - 5) = 65536 by decide]; omega
               rw [hq2] at hS
               clear hq2)
            | (have hq2:(m:Int) * 8 % 256=((8 * m / 256 ^ (7 - 5) % 256:Nat):Int):=by
                rw [show (256 : Nat) ^ (7 - 5) = 65536 by decide]; omega
               rw [hq2] at hS
               clear hq2)
          rw [List.append_assoc,← hb.out] at hS
          have hl2:∀ y:UInt8,(P ++ (be 8 (8 * m)).take 5 ++ [y]).length=N+5+1:=fun y=>by rw [List.length_append,← hlen.out]; rfl
          rw [hl2]
          clear hl2 hlen hb HQ
          go_wp2
          go_roundw
          case rel=>exact ⟨5+1,A3,c3,by omega,rfl,rfl,hS⟩
          case measure=>simp [intOf]
        | 6,_ =>
          have hq:(m:Int) * 8 / 256 % 256=((8 * m / 256 ^ (7 - 6) % 256:Nat):Int):=by
            rw [show (256:Nat) ^ (7 - 6)=256 by decide]; omega
          have hb:=hide (be8_take (8 * m) 6 (by omega))
          have hlen:=hide (show N+6=(P ++ (be 8 (8 * m)).take 6).length by rw [List.length_append,← HL.out,List.length_take,be_len]; omega)
          have HQ:=hide hq
          clear hq
          go_wp2_with (at_builtin; refine stopAt ?_)
          refine unstop (wpList_appS (hS.alloc _) 1 bytC rfl rfl rfl (Rd.one _ _ _ (by omega) (by omega)) rfl rfl hlen.out rfl (by rw [← hlen.out]; simp; omega) ?_)
          clear hS
          intro A3 c3 w3 hS
          simp only [List.cons_append,List.nil_append,List.set_cons_zero,List.set_cons_succ,List.map_cons,List.map_nil,List.getD_cons_zero,List.getD_cons_succ,Array.toList] at hS
          first
            | rw [HQ.out] at hS
            | (have hq2:(m:Int) * 8 / 256=((8 * m / 256 ^ (7 - 6) % 256:Nat):Int):=by
                rw [show (256 : Nat) ^ (7 - 6) = 256 by decide]; omega
               rw [hq2] at hS
               clear hq2)
            | (have hq2:(m:Int) * 8 % 256=((8 * m / 256 ^ (7 - 6) % 256:Nat):Int):=by
                rw [show (256 : Nat) ^ (7 - 6) = 256 by decide]; omega
               rw [hq2] at hS
               clear hq2)
          rw [List.append_assoc,← hb.out] at hS
          have hl2:∀ y:UInt8,(P ++ (be 8 (8 * m)).take 6 ++ [y]).length=N+6+1:=fun y=>by rw [List.length_append,← hlen.out]; rfl
          rw [hl2]
          clear hl2 hlen hb HQ
          go_wp2
          go_roundw
          case rel=>exact ⟨6+1,A3,c3,by omega,rfl,rfl,hS⟩
          case measure=>simp [intOf]
        | 7,_ =>
          have hq:(m:Int) * 8 / 1 % 256=((8 * m / 256 ^ (7 - 7) % 256:Nat):Int):=by
            rw [show (256:Nat) ^ (7 - 7)=1 by decide]; omega
          have hb:=hide (be8_take (8 * m) 7 (by omega))
          have hlen:=hide (show N+7=(P ++ (be 8 (8 * m)).take 7).length by rw [List.length_append,← HL.out,List.length_take,be_len]; omega)
          have HQ:=hide hq
          clear hq
          go_wp2_with (at_builtin; refine stopAt ?_)
          refine unstop (wpList_appS (hS.alloc _) 1 bytC rfl rfl rfl (Rd.one _ _ _ (by omega) (by omega)) rfl rfl hlen.out rfl (by rw [← hlen.out]; simp; omega) ?_)
          clear hS
          intro A3 c3 w3 hS
          simp only [List.cons_append,List.nil_append,List.set_cons_zero,List.set_cons_succ,List.map_cons,List.map_nil,List.getD_cons_zero,List.getD_cons_succ,Array.toList] at hS
          first
            | rw [HQ.out] at hS
            | (have hq2:(m:Int) * 8 / 1=((8 * m / 256 ^ (7 - 7) % 256:Nat):Int):=by
                rw [show (256 : Nat) ^ (7 - 7) = 1 by decide]; omega
               rw [hq2] at hS
               clear hq2)
            | (have hq2:(m:Int) * 8 % 256=((8 * m / 256 ^ (7 - 7) % 256:Nat):Int):=by
                rw [show (256 : Nat) ^ (7 - 7) = 1 by decide]; omega
               rw [hq2] at hS
               clear hq2)
          rw [List.append_assoc,← hb.out] at hS
          have hl2:∀ y:UInt8,(P ++ (be 8 (8 * m)).take 7 ++ [y]).length=N+7+1:=fun y=>by rw [List.length_append,← hlen.out]; rfl
          rw [hl2]
          clear hl2 hlen hb HQ
          go_wp2
          go_roundw
          case rel=>exact ⟨7+1,A3,c3,by omega,rfl,rfl,hS⟩
          case measure=>simp [intOf]
        | 8,_ =>
          rw [List.take_of_length_le (by rw [be_len]; omega),← HP.out] at hS
          have hpl:(padded l).length=N+8:=by rw [HP.out,List.length_append,be_len,← HL.out]
          obtain ⟨q,hq⟩:∃ q,N+8=64 * q:=⟨(N+8) / 64,by have:=padded_len l; omega⟩
          have HQ:=hide (show (padded l).length / 64=q by omega)
          have Hpl:=hide (show (padded l).length=64 * q by omega)
          have hcq:=(hS.own 1 rfl).cap
          have hcm:=(hS.own 1 rfl).cmax
          have HD:=hide (sha_def l)
          rw [HQ.out] at HD
          have hqb:64 * q≤1099511628100:=by omega
          have hq1:1≤q:=by omega
          clear HP HQ ht HL HN hk
          rw [hq]
          rw [hpl,hq] at hcq
          clear hq hpl
          generalize padded l=PD at *
          go_wp2_with (at_builtin; refine stopAt ?_)
          replace hS:=(hS.allocC #[.int .u32 1732584193,.int .u32 4023233417,.int .u32 2562383102,.int .u32 271733878,.int .u32 3285377520] 104).allocC #[.func (.func 63) #[] #[.pointer (some ⟨wr.heap.size,0,none⟩)]] 109
          refine (chunk_calls A' _ c' _).mono ?_
          rintro e w5 ⟨rfl,rfl⟩
          replace hS:=(hS.allocC #[.slice A' (64 * q) c'] 27).allocC #[.int .i64 64] 3
          simp only [World.size_alloc] at hS
          simp only [List.cons_append,List.nil_append,List.set_cons_zero,List.set_cons_succ,List.map_cons,List.map_nil,List.getD_cons_zero,List.getD_cons_succ,Array.toList] at hS
          go_wp2
          generalize wr.heap.size=gh at *
          generalize (((wr.alloc _).alloc _).alloc _).alloc _=W5 at *
          obtain ⟨b,o,rfl,_,_⟩:=(hS.rd 1 rfl).at_ (by have:=Hpl.out; omega)
          have est:(#[.int .u32 1732584193,.int .u32 4023233417,.int .u32 2562383102,.int .u32 271733878,.int .u32 3285377520]:Array Value)=stCells st0:=rfl
          rw [est] at hS
          clear est
          rw [← hashB_zero PD st0] at hS
          refine wp_rangeFunc_step_wide ?_
          refine wpIn_rangeFunc_stepB (F:=Fence.wide) (n:=5) 8 (fun x=>.slice (some ⟨b,o+64 * x,none⟩) 64 64) rfl (by omega) (gf:=94) rfl trivial (enters_of Tryd.func94 (by kernel_rfl) rfl)
            (chunk_in W5 b o c' q _ _ (hS.blk 4 rfl) (hS.blk 5 rfl) hcq hcm _) (row0:=none) (fun k e=>by cases e) (fun _ _ h=>h)
            (fun h k=>⟨k.1.trans h.1,k.2.trans h.2⟩) (fun W l o o' hl ho _ _=>⟨World.putObj_heap_other (by have:=(hS.blk 4 rfl).lt; omega),World.putObj_heap_other (by have:=(hS.blk 5 rfl).lt; omega)⟩)
            (fun pre W=>Sep w.heap.size w W [.blk w.heap.size 49 z20,.row 5 (some ⟨b,o,none⟩) c' PD,.blk gh 104 (stCells (hashB pre.length PD st0)),.blk (gh+1) 109 #[.func (.func 63) #[] #[.pointer (some ⟨gh,0,none⟩)]],.blk (gh+1+1) 27 #[.slice (some ⟨b,o,none⟩) (64 * q) c'],.blk (gh+1+1+1) 3 #[.int .i64 64]])
            (fun pre W W' row hI hg hr=>hI.others rfl hg fun r e=>⟨Nat.le_trans hS.size (hr r e).1,(hr r e).2⟩) (fun _ _ _ hI hs=>hI.still hs) hS ?assign (fun W=>⟨rfl,rfl⟩) ?body ?done
          case assign =>
            intro l pre x W K hI hN hK
            have HK:=hide hK
            clear hK
            gi_wp2
            exact HK.out
          case body =>
            intro l pre x W hl hI hN
            obtain ⟨rfl,hxq⟩:=hN
            rw [List.length_range] at hI
            have hf:W.cell? ⟨gh+1,0,none⟩=some (.func (.func 63) #[] #[.pointer (some ⟨gh,0,none⟩)]):=hI.cell 3 0 rfl rfl
            have hch:(PD.take (64 * x+64)).drop (64 * x)=chunk PD x:=by unfold chunk; rw [List.take_drop,Nat.add_comm]
            have hcl:(chunk PD x).length=64:=by have:=Hpl.out; rw [← hch,part_len _ _ _ (by omega)]; omega
            have hrc:Rd W (some ⟨b,o+64 * x,none⟩) (chunk PD x):=by
              rw [← hch]; have:=Hpl.out; exact (hI.rd 1 rfl).part0 (by omega) (by omega)
            have hne:ablk (some ⟨b,o+64 * x,none⟩)≠some gh:=fun e=>hI.apart 1 2 _ _ (by omega) rfl rfl b rfl e.symm
            have hbk:=hide (shaBlock (some ⟨b,o+64 * x,none⟩) 64 gh (chunk PD x) (hashB x PD st0) W hcl hrc (by omega) (by omega) hne (hI.blk 2 rfl) (hashB_ok _ _ _ st0_ok))
            gi_wp2
            refine (callsIn_wide.2 hbk.out).mono ?_
            rintro e W' ⟨⟨v,rfl⟩,hb2,hg2⟩
            have hI2:=hI.turned (i:=2) (y:=.blk gh 104 (stCells (hashB (x+1) PD st0))) rfl hg2 ⟨hI.ge 2 rfl,by rw [hashB_succ]; exact hb2⟩ (.inl rfl)
            simp only [List.cons_append,List.nil_append,List.set_cons_zero,List.set_cons_succ,List.map_cons,List.map_nil,List.getD_cons_zero,List.getD_cons_succ,Array.toList] at hI2
            have hk4:=(hI2.blk 4 rfl).trans (hI.blk 4 rfl).symm
            have hk5:=(hI2.blk 5 rfl).trans (hI.blk 5 rfl).symm
            have hko:KeepsOthers W W' := KeepsOthers.of_grownBy hg2 fun j ob hj ho=>by
              cases hj
              rw [show W.heap[gh]?=_ from hI.blk 2 rfl] at ho; cases ho; rfl
            clear hbk hf hch
            gi_wp2
            exact ⟨hko.from _,⟨hk4,hk5⟩,by simpa using hI2⟩
          case done =>
            intro D pre W hD hp hI hK
            subst hp
            rw [List.length_range] at hI
            replace hI:=hI.pushObj (Nat.le_trans hS.size hD) hK (fun i y hy=>fun e=>by
              have hc:=(hI.ok i y hy).isCells (List.all_eq_true.1 (by rfl:List.all _ It.cells=true) y (List.mem_of_getElem? hy)) D _ e hK
              cases hc)
            have hI:=hI.pick [0,2,6] (by decide); simp only [List.cons_append,List.nil_append,List.set_cons_zero,List.set_cons_succ,List.map_cons,List.map_nil,List.getD_cons_zero,List.getD_cons_succ] at hI
            clear hS
            have HD2:=HD
            generalize hashB q PD st0=fin at *
            have z20id:=z20_id
            go_wp2_with (at_builtin; refine stopAt ?_)
            replace hI:=hI.allocC z20 49
            simp only [List.cons_append,List.nil_append,List.set_cons_zero,List.set_cons_succ,List.map_cons,List.map_nil,List.getD_cons_zero,List.getD_cons_succ,Array.toList] at hI
            rw [z20id] at hI
            clear z20id
            generalize W.alloc (.cells (idArr []) 49)=W6 at hI ⊢
            generalize W.heap.size=g9 at hI ⊢
            go_loopw [48] (fun i wr=>∃ k:Nat,k≤20∧i=.int .i64 k∧Sep w.heap.size w wr [.blk w.heap.size 49 (idArr []),.blk gh 104 (stCells fin),.obj D (.deferred (some [])),.blk g9 49 (idArr (fin.bytes.take k))])
              (fun i _=>20 - (intOf i).toNat)
            case atStart=>exact ⟨0,by omega,rfl,hI⟩
            case round =>
              clear hI hK
              obtain ⟨k,hk,rfl,hS⟩:=hrel
              match k,hk with
              | 0,_ =>
                have g0:wr.cell? ⟨gh,0,none⟩=some (.int .u32 (fin.a:Int)):=hS.cell 1 0 rfl rfl
                obtain ⟨v,hv⟩:=idArr_at2 (fin.bytes.take 0) 0 (by omega) (by rw [List.length_take]; omega)
                have cw:=hS.cell 3 0 rfl hv
                have fw:=hS.frozen 3 0 rfl
                have htk:=hide (show fin.bytes.take (0+1)=fin.bytes.take 0 ++ [byteOf ((fin.a / 256 ^ 3 % 256:Nat):Int)] from rfl)
                clear hv
                go_wp2
                go_roundw
                case rel =>
                  refine ⟨0+1,by omega,rfl,(hS.store 3 (j:=0) rfl _).cast ?_⟩
                  simp only [List.set_cons_succ,List.set_cons_zero]
                  rw [idArr_step (fin.bytes.take 0) 0 (byteOf ((fin.a / 256 ^ 3 % 256:Nat):Int)) _ (by rw [List.length_take,bytes_len]; rfl) (by omega) (by rw [toNat_byteOf,show (256:Nat) ^ 3=16777216 by decide]; omega),← htk.out]
                case measure=>simp [intOf]
              | 1,_ =>
                have g0:wr.cell? ⟨gh,0,none⟩=some (.int .u32 (fin.a:Int)):=hS.cell 1 0 rfl rfl
                obtain ⟨v,hv⟩:=idArr_at2 (fin.bytes.take 1) 1 (by omega) (by rw [List.length_take]; omega)
                have cw:=hS.cell 3 1 rfl hv
                have fw:=hS.frozen 3 1 rfl
                have htk:=hide (show fin.bytes.take (1+1)=fin.bytes.take 1 ++ [byteOf ((fin.a / 256 ^ 2 % 256:Nat):Int)] from rfl)
                clear hv
                go_wp2
                go_roundw
                case rel =>
                  refine ⟨1+1,by omega,rfl,(hS.store 3 (j:=1) rfl _).cast ?_⟩
                  simp only [List.set_cons_succ,List.set_cons_zero]
                  rw [idArr_step (fin.bytes.take 1) 1 (byteOf ((fin.a / 256 ^ 2 % 256:Nat):Int)) _ (by rw [List.length_take,bytes_len]; rfl) (by omega) (by rw [toNat_byteOf,show (256:Nat) ^ 2=65536 by decide]; omega),← htk.out]
                case measure=>simp [intOf]
              | 2,_ =>
                have g0:wr.cell? ⟨gh,0,none⟩=some (.int .u32 (fin.a:Int)):=hS.cell 1 0 rfl rfl
                obtain ⟨v,hv⟩:=idArr_at2 (fin.bytes.take 2) 2 (by omega) (by rw [List.length_take]; omega)
                have cw:=hS.cell 3 2 rfl hv
                have fw:=hS.frozen 3 2 rfl
                have htk:=hide (show fin.bytes.take (2+1)=fin.bytes.take 2 ++ [byteOf ((fin.a / 256 ^ 1 % 256:Nat):Int)] from rfl)
                clear hv
                go_wp2
                go_roundw
                case rel =>
                  refine ⟨2+1,by omega,rfl,(hS.store 3 (j:=2) rfl _).cast ?_⟩
                  simp only [List.set_cons_succ,List.set_cons_zero]
                  rw [idArr_step (fin.bytes.take 2) 2 (byteOf ((fin.a / 256 ^ 1 % 256:Nat):Int)) _ (by rw [List.length_take,bytes_len]; rfl) (by omega) (by rw [toNat_byteOf,show (256:Nat) ^ 1=256 by decide]; omega),← htk.out]
                case measure=>simp [intOf]
              | 3,_ =>
                have g0:wr.cell? ⟨gh,0,none⟩=some (.int .u32 (fin.a:Int)):=hS.cell 1 0 rfl rfl
                obtain ⟨v,hv⟩:=idArr_at2 (fin.bytes.take 3) 3 (by omega) (by rw [List.length_take]; omega)
                have cw:=hS.cell 3 3 rfl hv
                have fw:=hS.frozen 3 3 rfl
                have htk:=hide (show fin.bytes.take (3+1)=fin.bytes.take 3 ++ [byteOf ((fin.a / 256 ^ 0 % 256:Nat):Int)] from rfl)
                clear hv
                go_wp2
                go_roundw
                case rel =>
                  refine ⟨3+1,by omega,rfl,(hS.store 3 (j:=3) rfl _).cast ?_⟩
                  simp only [List.set_cons_succ,List.set_cons_zero]
                  rw [idArr_step (fin.bytes.take 3) 3 (byteOf ((fin.a / 256 ^ 0 % 256:Nat):Int)) _ (by rw [List.length_take,bytes_len]; rfl) (by omega) (by rw [toNat_byteOf,show (256:Nat) ^ 0=1 by decide]; omega),← htk.out]
                case measure=>simp [intOf]
              | 4,_ =>
                have g0:wr.cell? ⟨gh,1,none⟩=some (.int .u32 (fin.b:Int)):=hS.cell 1 1 rfl rfl
                obtain ⟨v,hv⟩:=idArr_at2 (fin.bytes.take 4) 4 (by omega) (by rw [List.length_take]; omega)
                have cw:=hS.cell 3 4 rfl hv
                have fw:=hS.frozen 3 4 rfl
                have htk:=hide (show fin.bytes.take (4+1)=fin.bytes.take 4 ++ [byteOf ((fin.b / 256 ^ 3 % 256:Nat):Int)] from rfl)
                clear hv
                go_wp2
                go_roundw
                case rel =>
                  refine ⟨4+1,by omega,rfl,(hS.store 3 (j:=4) rfl _).cast ?_⟩
                  simp only [List.set_cons_succ,List.set_cons_zero]
                  rw [idArr_step (fin.bytes.take 4) 4 (byteOf ((fin.b / 256 ^ 3 % 256:Nat):Int)) _ (by rw [List.length_take,bytes_len]; rfl) (by omega) (by rw [toNat_byteOf,show (256:Nat) ^ 3=16777216 by decide]; omega),← htk.out]
                case measure=>simp [intOf]
              | 5,_ =>
                have g0:wr.cell? ⟨gh,1,none⟩=some (.int .u32 (fin.b:Int)):=hS.cell 1 1 rfl rfl
                obtain ⟨v,hv⟩:=idArr_at2 (fin.bytes.take 5) 5 (by omega) (by rw [List.length_take]; omega)
                have cw:=hS.cell 3 5 rfl hv
                have fw:=hS.frozen 3 5 rfl
                have htk:=hide (show fin.bytes.take (5+1)=fin.bytes.take 5 ++ [byteOf ((fin.b / 256 ^ 2 % 256:Nat):Int)] from rfl)
                clear hv
                go_wp2
                go_roundw
                case rel =>
                  refine ⟨5+1,by omega,rfl,(hS.store 3 (j:=5) rfl _).cast ?_⟩
                  simp only [List.set_cons_succ,List.set_cons_zero]
                  rw [idArr_step (fin.bytes.take 5) 5 (byteOf ((fin.b / 256 ^ 2 % 256:Nat):Int)) _ (by rw [List.length_take,bytes_len]; rfl) (by omega) (by rw [toNat_byteOf,show (256:Nat) ^ 2=65536 by decide]; omega),← htk.out]
                case measure=>simp [intOf]
              | 6,_ =>
                have g0:wr.cell? ⟨gh,1,none⟩=some (.int .u32 (fin.b:Int)):=hS.cell 1 1 rfl rfl
                obtain ⟨v,hv⟩:=idArr_at2 (fin.bytes.take 6) 6 (by omega) (by rw [List.length_take]; omega)
                have cw:=hS.cell 3 6 rfl hv
                have fw:=hS.frozen 3 6 rfl
                have htk:=hide (show fin.bytes.take (6+1)=fin.bytes.take 6 ++ [byteOf ((fin.b / 256 ^ 1 % 256:Nat):Int)] from rfl)
                clear hv
                go_wp2
                go_roundw
                case rel =>
                  refine ⟨6+1,by omega,rfl,(hS.store 3 (j:=6) rfl _).cast ?_⟩
                  simp only [List.set_cons_succ,List.set_cons_zero]
                  rw [idArr_step (fin.bytes.take 6) 6 (byteOf ((fin.b / 256 ^ 1 % 256:Nat):Int)) _ (by rw [List.length_take,bytes_len]; rfl) (by omega) (by rw [toNat_byteOf,show (256:Nat) ^ 1=256 by decide]; omega),← htk.out]
                case measure=>simp [intOf]
              | 7,_ =>
                have g0:wr.cell? ⟨gh,1,none⟩=some (.int .u32 (fin.b:Int)):=hS.cell 1 1 rfl rfl
                obtain ⟨v,hv⟩:=idArr_at2 (fin.bytes.take 7) 7 (by omega) (by rw [List.length_take]; omega)
                have cw:=hS.cell 3 7 rfl hv
                have fw:=hS.frozen 3 7 rfl
                have htk:=hide (show fin.bytes.take (7+1)=fin.bytes.take 7 ++ [byteOf ((fin.b / 256 ^ 0 % 256:Nat):Int)] from rfl)
                clear hv
                go_wp2
                go_roundw
                case rel =>
                  refine ⟨7+1,by omega,rfl,(hS.store 3 (j:=7) rfl _).cast ?_⟩
                  simp only [List.set_cons_succ,List.set_cons_zero]
                  rw [idArr_step (fin.bytes.take 7) 7 (byteOf ((fin.b / 256 ^ 0 % 256:Nat):Int)) _ (by rw [List.length_take,bytes_len]; rfl) (by omega) (by rw [toNat_byteOf,show (256:Nat) ^ 0=1 by decide]; omega),← htk.out]
                case measure=>simp [intOf]
              | 8,_ =>
                have g0:wr.cell? ⟨gh,2,none⟩=some (.int .u32 (fin.c:Int)):=hS.cell 1 2 rfl rfl
                obtain ⟨v,hv⟩:=idArr_at2 (fin.bytes.take 8) 8 (by omega) (by rw [List.length_take]; omega)
                have cw:=hS.cell 3 8 rfl hv
                have fw:=hS.frozen 3 8 rfl
                have htk:=hide (show fin.bytes.take (8+1)=fin.bytes.take 8 ++ [byteOf ((fin.c / 256 ^ 3 % 256:Nat):Int)] from rfl)
                clear hv
                go_wp2
                go_roundw
                case rel =>
                  refine ⟨8+1,by omega,rfl,(hS.store 3 (j:=8) rfl _).cast ?_⟩
                  simp only [List.set_cons_succ,List.set_cons_zero]
                  rw [idArr_step (fin.bytes.take 8) 8 (byteOf ((fin.c / 256 ^ 3 % 256:Nat):Int)) _ (by rw [List.length_take,bytes_len]; rfl) (by omega) (by rw [toNat_byteOf,show (256:Nat) ^ 3=16777216 by decide]; omega),← htk.out]
                case measure=>simp [intOf]
              | 9,_ =>
                have g0:wr.cell? ⟨gh,2,none⟩=some (.int .u32 (fin.c:Int)):=hS.cell 1 2 rfl rfl
                obtain ⟨v,hv⟩:=idArr_at2 (fin.bytes.take 9) 9 (by omega) (by rw [List.length_take]; omega)
                have cw:=hS.cell 3 9 rfl hv
                have fw:=hS.frozen 3 9 rfl
                have htk:=hide (show fin.bytes.take (9+1)=fin.bytes.take 9 ++ [byteOf ((fin.c / 256 ^ 2 % 256:Nat):Int)] from rfl)
                clear hv
                go_wp2
                go_roundw
                case rel =>
                  refine ⟨9+1,by omega,rfl,(hS.store 3 (j:=9) rfl _).cast ?_⟩
                  simp only [List.set_cons_succ,List.set_cons_zero]
                  rw [idArr_step (fin.bytes.take 9) 9 (byteOf ((fin.c / 256 ^ 2 % 256:Nat):Int)) _ (by rw [List.length_take,bytes_len]; rfl) (by omega) (by rw [toNat_byteOf,show (256:Nat) ^ 2=65536 by decide]; omega),← htk.out]
                case measure=>simp [intOf]
              | 10,_ =>
                have g0:wr.cell? ⟨gh,2,none⟩=some (.int .u32 (fin.c:Int)):=hS.cell 1 2 rfl rfl
                obtain ⟨v,hv⟩:=idArr_at2 (fin.bytes.take 10) 10 (by omega) (by rw [List.length_take]; omega)
                have cw:=hS.cell 3 10 rfl hv
                have fw:=hS.frozen 3 10 rfl
                have htk:=hide (show fin.bytes.take (10+1)=fin.bytes.take 10 ++ [byteOf ((fin.c / 256 ^ 1 % 256:Nat):Int)] from rfl)
                clear hv
                go_wp2
                go_roundw
                case rel =>
                  refine ⟨10+1,by omega,rfl,(hS.store 3 (j:=10) rfl _).cast ?_⟩
                  simp only [List.set_cons_succ,List.set_cons_zero]
                  rw [idArr_step (fin.bytes.take 10) 10 (byteOf ((fin.c / 256 ^ 1 % 256:Nat):Int)) _ (by rw [List.length_take,bytes_len]; rfl) (by omega) (by rw [toNat_byteOf,show (256:Nat) ^ 1=256 by decide]; omega),← htk.out]
                case measure=>simp [intOf]
              | 11,_ =>
                have g0:wr.cell? ⟨gh,2,none⟩=some (.int .u32 (fin.c:Int)):=hS.cell 1 2 rfl rfl
                obtain ⟨v,hv⟩:=idArr_at2 (fin.bytes.take 11) 11 (by omega) (by rw [List.length_take]; omega)
                have cw:=hS.cell 3 11 rfl hv
                have fw:=hS.frozen 3 11 rfl
                have htk:=hide (show fin.bytes.take (11+1)=fin.bytes.take 11 ++ [byteOf ((fin.c / 256 ^ 0 % 256:Nat):Int)] from rfl)
                clear hv
                go_wp2
                go_roundw
                case rel =>
                  refine ⟨11+1,by omega,rfl,(hS.store 3 (j:=11) rfl _).cast ?_⟩
                  simp only [List.set_cons_succ,List.set_cons_zero]
                  rw [idArr_step (fin.bytes.take 11) 11 (byteOf ((fin.c / 256 ^ 0 % 256:Nat):Int)) _ (by rw [List.length_take,bytes_len]; rfl) (by omega) (by rw [toNat_byteOf,show (256:Nat) ^ 0=1 by decide]; omega),← htk.out]
                case measure=>simp [intOf]
              | 12,_ =>
                have g0:wr.cell? ⟨gh,3,none⟩=some (.int .u32 (fin.d:Int)):=hS.cell 1 3 rfl rfl
                obtain ⟨v,hv⟩:=idArr_at2 (fin.bytes.take 12) 12 (by omega) (by rw [List.length_take]; omega)
                have cw:=hS.cell 3 12 rfl hv
                have fw:=hS.frozen 3 12 rfl
                have htk:=hide (show fin.bytes.take (12+1)=fin.bytes.take 12 ++ [byteOf ((fin.d / 256 ^ 3 % 256:Nat):Int)] from rfl)
                clear hv
                go_wp2
                go_roundw
                case rel =>
                  refine ⟨12+1,by omega,rfl,(hS.store 3 (j:=12) rfl _).cast ?_⟩
                  simp only [List.set_cons_succ,List.set_cons_zero]
                  rw [idArr_step (fin.bytes.take 12) 12 (byteOf ((fin.d / 256 ^ 3 % 256:Nat):Int)) _ (by rw [List.length_take,bytes_len]; rfl) (by omega) (by rw [toNat_byteOf,show (256:Nat) ^ 3=16777216 by decide]; omega),← htk.out]
                case measure=>simp [intOf]
              | 13,_ =>
                have g0:wr.cell? ⟨gh,3,none⟩=some (.int .u32 (fin.d:Int)):=hS.cell 1 3 rfl rfl
                obtain ⟨v,hv⟩:=idArr_at2 (fin.bytes.take 13) 13 (by omega) (by rw [List.length_take]; omega)
                have cw:=hS.cell 3 13 rfl hv
                have fw:=hS.frozen 3 13 rfl
                have htk:=hide (show fin.bytes.take (13+1)=fin.bytes.take 13 ++ [byteOf ((fin.d / 256 ^ 2 % 256:Nat):Int)] from rfl)
                clear hv
                go_wp2
                go_roundw
                case rel =>
                  refine ⟨13+1,by omega,rfl,(hS.store 3 (j:=13) rfl _).cast ?_⟩
                  simp only [List.set_cons_succ,List.set_cons_zero]
                  rw [idArr_step (fin.bytes.take 13) 13 (byteOf ((fin.d / 256 ^ 2 % 256:Nat):Int)) _ (by rw [List.length_take,bytes_len]; rfl) (by omega) (by rw [toNat_byteOf,show (256:Nat) ^ 2=65536 by decide]; omega),← htk.out]
                case measure=>simp [intOf]
              | 14,_ =>
                have g0:wr.cell? ⟨gh,3,none⟩=some (.int .u32 (fin.d:Int)):=hS.cell 1 3 rfl rfl
                obtain ⟨v,hv⟩:=idArr_at2 (fin.bytes.take 14) 14 (by omega) (by rw [List.length_take]; omega)
                have cw:=hS.cell 3 14 rfl hv
                have fw:=hS.frozen 3 14 rfl
                have htk:=hide (show fin.bytes.take (14+1)=fin.bytes.take 14 ++ [byteOf ((fin.d / 256 ^ 1 % 256:Nat):Int)] from rfl)
                clear hv
                go_wp2
                go_roundw
                case rel =>
                  refine ⟨14+1,by omega,rfl,(hS.store 3 (j:=14) rfl _).cast ?_⟩
                  simp only [List.set_cons_succ,List.set_cons_zero]
                  rw [idArr_step (fin.bytes.take 14) 14 (byteOf ((fin.d / 256 ^ 1 % 256:Nat):Int)) _ (by rw [List.length_take,bytes_len]; rfl) (by omega) (by rw [toNat_byteOf,show (256:Nat) ^ 1=256 by decide]; omega),← htk.out]
                case measure=>simp [intOf]
              | 15,_ =>
                have g0:wr.cell? ⟨gh,3,none⟩=some (.int .u32 (fin.d:Int)):=hS.cell 1 3 rfl rfl
                obtain ⟨v,hv⟩:=idArr_at2 (fin.bytes.take 15) 15 (by omega) (by rw [List.length_take]; omega)
                have cw:=hS.cell 3 15 rfl hv
                have fw:=hS.frozen 3 15 rfl
                have htk:=hide (show fin.bytes.take (15+1)=fin.bytes.take 15 ++ [byteOf ((fin.d / 256 ^ 0 % 256:Nat):Int)] from rfl)
                clear hv
                go_wp2
                go_roundw
                case rel =>
                  refine ⟨15+1,by omega,rfl,(hS.store 3 (j:=15) rfl _).cast ?_⟩
                  simp only [List.set_cons_succ,List.set_cons_zero]
                  rw [idArr_step (fin.bytes.take 15) 15 (byteOf ((fin.d / 256 ^ 0 % 256:Nat):Int)) _ (by rw [List.length_take,bytes_len]; rfl) (by omega) (by rw [toNat_byteOf,show (256:Nat) ^ 0=1 by decide]; omega),← htk.out]
                case measure=>simp [intOf]
              | 16,_ =>
                have g0:wr.cell? ⟨gh,4,none⟩=some (.int .u32 (fin.e:Int)):=hS.cell 1 4 rfl rfl
                obtain ⟨v,hv⟩:=idArr_at2 (fin.bytes.take 16) 16 (by omega) (by rw [List.length_take]; omega)
                have cw:=hS.cell 3 16 rfl hv
                have fw:=hS.frozen 3 16 rfl
                have htk:=hide (show fin.bytes.take (16+1)=fin.bytes.take 16 ++ [byteOf ((fin.e / 256 ^ 3 % 256:Nat):Int)] from rfl)
                clear hv
                go_wp2
                go_roundw
                case rel =>
                  refine ⟨16+1,by omega,rfl,(hS.store 3 (j:=16) rfl _).cast ?_⟩
                  simp only [List.set_cons_succ,List.set_cons_zero]
                  rw [idArr_step (fin.bytes.take 16) 16 (byteOf ((fin.e / 256 ^ 3 % 256:Nat):Int)) _ (by rw [List.length_take,bytes_len]; rfl) (by omega) (by rw [toNat_byteOf,show (256:Nat) ^ 3=16777216 by decide]; omega),← htk.out]
                case measure=>simp [intOf]
              | 17,_ =>
                have g0:wr.cell? ⟨gh,4,none⟩=some (.int .u32 (fin.e:Int)):=hS.cell 1 4 rfl rfl
                obtain ⟨v,hv⟩:=idArr_at2 (fin.bytes.take 17) 17 (by omega) (by rw [List.length_take]; omega)
                have cw:=hS.cell 3 17 rfl hv
                have fw:=hS.frozen 3 17 rfl
                have htk:=hide (show fin.bytes.take (17+1)=fin.bytes.take 17 ++ [byteOf ((fin.e / 256 ^ 2 % 256:Nat):Int)] from rfl)
                clear hv
                go_wp2
                go_roundw
                case rel =>
                  refine ⟨17+1,by omega,rfl,(hS.store 3 (j:=17) rfl _).cast ?_⟩
                  simp only [List.set_cons_succ,List.set_cons_zero]
                  rw [idArr_step (fin.bytes.take 17) 17 (byteOf ((fin.e / 256 ^ 2 % 256:Nat):Int)) _ (by rw [List.length_take,bytes_len]; rfl) (by omega) (by rw [toNat_byteOf,show (256:Nat) ^ 2=65536 by decide]; omega),← htk.out]
                case measure=>simp [intOf]
              | 18,_ =>
                have g0:wr.cell? ⟨gh,4,none⟩=some (.int .u32 (fin.e:Int)):=hS.cell 1 4 rfl rfl
                obtain ⟨v,hv⟩:=idArr_at2 (fin.bytes.take 18) 18 (by omega) (by rw [List.length_take]; omega)
                have cw:=hS.cell 3 18 rfl hv
                have fw:=hS.frozen 3 18 rfl
                have htk:=hide (show fin.bytes.take (18+1)=fin.bytes.take 18 ++ [byteOf ((fin.e / 256 ^ 1 % 256:Nat):Int)] from rfl)
                clear hv
                go_wp2
                go_roundw
                case rel =>
                  refine ⟨18+1,by omega,rfl,(hS.store 3 (j:=18) rfl _).cast ?_⟩
                  simp only [List.set_cons_succ,List.set_cons_zero]
                  rw [idArr_step (fin.bytes.take 18) 18 (byteOf ((fin.e / 256 ^ 1 % 256:Nat):Int)) _ (by rw [List.length_take,bytes_len]; rfl) (by omega) (by rw [toNat_byteOf,show (256:Nat) ^ 1=256 by decide]; omega),← htk.out]
                case measure=>simp [intOf]
              | 19,_ =>
                have g0:wr.cell? ⟨gh,4,none⟩=some (.int .u32 (fin.e:Int)):=hS.cell 1 4 rfl rfl
                obtain ⟨v,hv⟩:=idArr_at2 (fin.bytes.take 19) 19 (by omega) (by rw [List.length_take]; omega)
                have cw:=hS.cell 3 19 rfl hv
                have fw:=hS.frozen 3 19 rfl
                have htk:=hide (show fin.bytes.take (19+1)=fin.bytes.take 19 ++ [byteOf ((fin.e / 256 ^ 0 % 256:Nat):Int)] from rfl)
                clear hv
                go_wp2
                go_roundw
                case rel =>
                  refine ⟨19+1,by omega,rfl,(hS.store 3 (j:=19) rfl _).cast ?_⟩
                  simp only [List.set_cons_succ,List.set_cons_zero]
                  rw [idArr_step (fin.bytes.take 19) 19 (byteOf ((fin.e / 256 ^ 0 % 256:Nat):Int)) _ (by rw [List.length_take,bytes_len]; rfl) (by omega) (by rw [toNat_byteOf,show (256:Nat) ^ 0=1 by decide]; omega),← htk.out]
                case measure=>simp [intOf]
              | 20,_ =>
                rw [List.take_of_length_le (by rw [bytes_len]; omega)] at hS
                go_wp2_with (first | (with_reducible refine wpList_stopLoad (ty:=49) (x:=.tmp 9) rfl ?_) | (at_builtin; refine stopAt ?_))
                refine unstop (wpList_load_row rfl 49 (.tmp 9) rfl g9 rfl 49 _ (0,0) _ (hS.blk 3 rfl) Tryd.underlying49 rfl (by rw [idArr_size _ (by rw [bytes_len]; omega)]; exact info20) ?_)
                refine wpList_store_rowS hS 0 rfl rfl 49 (.tmp 2) (.tmp 64) rfl rfl rfl (by rw [idArr_size _ (by rw [bytes_len]; omega)]; exact info20) (by rw [idArr_size [] (by simp),idArr_size fin.bytes (by rw [bytes_len]; omega)]) (idArr_one _) ?_
                clear hS
                intro w9 hS
                simp only [List.cons_append,List.nil_append,List.set_cons_zero,List.set_cons_succ,List.map_cons,List.map_nil,List.getD_cons_zero,List.getD_cons_succ,Array.toList] at hS
                have hbel:=hS.below
                have hfin:sha l=fin.bytes:=HD2.out
                have hsz2:(idArr fin.bytes)=((sha l).map U).toArray:=by
                  rw [hfin]; unfold idArr; rw [bytes_len]; simp
                have hS2:=hS.putObj 2 rfl (.deferred none)
                have hob:=hS.obj 2 rfl
                simp only [List.cons_append,List.nil_append,List.set_cons_zero,List.set_cons_succ,List.map_cons,List.map_nil,List.getD_cons_zero,List.getD_cons_succ,Array.toList] at hS2
                have hb0:=hS2.blk 0 rfl
                have hbel2:=hS2.below
                clear hS hS2
                have HS2:=hide hsz2
                clear hsz2 hfin HD2 HD hbel
                go_wp2
                refine ⟨by simp,.inl ⟨_,_,rfl,run_takeDeferred hob,?_⟩⟩
                refine ⟨.agg (idArr fin.bytes),?_,by rw [HS2.out,Hfl.out],hbel2⟩
                refine results_cell_row rfl _ _ w.heap.size 49 _ (0,0) _ ?_ hb0 Tryd.underlying49 rfl (by rw [idArr_size fin.bytes (by rw [bytes_len]; omega)]; exact info20)
                rfl
              | j+21,hk=>exact absurd hk (by omega)
end Go.Proofs.YtakolikdebfkeaaDoor
