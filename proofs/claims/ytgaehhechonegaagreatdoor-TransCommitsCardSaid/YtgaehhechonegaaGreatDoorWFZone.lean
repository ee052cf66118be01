import Derived.Test.YtgaehhechonegaaGreatDoorWShelf
import Derived.Lib.IndexBytes
import Derived.Lib.CountLaws
import Derived.Lib.SplitLaws
import Derived.Lib.Replace
import Derived.Lib.IndexMore
import Derived.Lib.ReplaceLaws
import Derived.Test.YtgaehhechonegaaGreatDoorWAMS
import Derived.Lib.ItoaNum
import Derived.Lib.ItoaMem
import Derived.Lib.AtoiAll
import Derived.Laws.BitsAllLaws
import Derived.Test.YtgaehhechonegaaGreatDoorChecked
import Derived.Sort.Grow
import Derived.Test.YtgaehhechonegaaGreatDoorWMem
import Derived.Lib.Bytealg
import Derived.KernelRfl
import Derived.Test.YtgaehhechonegaaGreatDoorProg
import Derived.Shelf.Strings.Builder1
import Derived.Laws.EntriesVeiled
import Derived.Laws.BitsAll
import Derived.BigQuiet
import Derived.Deep.QuietTactic
import Derived.BigRegion
import Derived.Deep.RegionHeld3
import Derived.StillTailTactics
open Nat (reduceDiv reduceMod reduceSub reduceAdd reduceLeDiff reduceEqDiff)
set_option linter.all false
namespace Go.Proofs.YtgaehhechonegaaGreatDoor
open Go.RowKit
def digB (b:UInt8):Bool:=decide (48≤b.toNat) && decide (b.toNat≤57)
def zonP (x:Nat):Bool:=decide (x<48) || decide (57<x)
set_option maxHeartbeats 1000000 in
theorem zoned1_walk (x:Nat) (w:World):Calls Tryz.prog 117 #[.int .i32 (x:Int)] w fun e w' => e=.returned (.bool (zonP x))∧∃ q,w' = w.drewN q:=by
 have e1:decide ((x:Int)<48)=decide (x<48):=by rw [Bool.eq_iff_iff]; simp; omega
 have e2:decide ((57:Int)<(x:Int))=decide (57<x):=by rw [Bool.eq_iff_iff]; simp; omega
 go_enter Tryz.func117,Tryz.ntmps117
 unfold zonP
 cases h1:decide (x<48) <;> cases h2:decide (57<x) <;> rw [h1] at e1 <;> rw [h2] at e2
 all_goals (go_wp2; go_ret; exact ⟨rfl,0,rfl⟩)
theorem zonF (s:List UInt8):∀ (f pos:Nat),s.length - pos≤f→(0≤Lib.idxFuncFrom zonP true ⟨s.toArray⟩ f pos↔(s.drop pos).all digB=false):=by
 have hsz:(⟨s.toArray⟩:ByteArray).size=s.length:=rfl
 intro f
 induction f with
 | zero =>
  intro pos h
  have:s.drop pos=[]:=List.drop_eq_nil_of_le (by omega)
  rw [this]; simp [Lib.idxFuncFrom]
 | succ f ih =>
  intro pos h
  unfold Lib.idxFuncFrom
  by_cases hp:pos<s.length
  ·rw [if_pos (by rw [hsz]; exact hp)]
   have hd:s.drop pos=s[pos] :: s.drop (pos+1):=List.drop_eq_getElem_cons hp
   have hg:((⟨s.toArray⟩:ByteArray)[pos]'hp)=s[pos]:=rfl
   by_cases hb:(s[pos]).toNat<128
   ·have hdc:=decode_ascii ⟨s.toArray⟩ pos hp (by rw [hg]; exact hb)
    rw [hg] at hdc
    rw [hdc]
    simp only
    by_cases hz:zonP (s[pos]).toNat=true
    ·rw [if_pos hz,hd]
     have:digB s[pos]=false:=by
      unfold digB; unfold zonP at hz
      simp only [Bool.or_eq_true,decide_eq_true_eq] at hz
      rw [Bool.and_eq_false_iff]
      rcases hz with h | h
      ·exact .inl (decide_eq_false (by omega))
      ·exact .inr (decide_eq_false (by omega))
     rw [List.all_cons,this,Bool.false_and]
     simp
    ·rw [if_neg hz,ih (pos+1) (by omega),hd]
     have:digB s[pos]=true:=by
      unfold digB; unfold zonP at hz
      simp only [Bool.or_eq_true,decide_eq_true_eq] at hz
      simp; omega
     rw [List.all_cons,this,Bool.true_and]
   ·have hh:=decode_high ⟨s.toArray⟩ pos hp (by rw [hg]; omega)
    have hz:zonP (Utf8.decode ⟨s.toArray⟩ pos).1=true:=by
     unfold zonP
     simp only [Bool.or_eq_true,decide_eq_true_eq]
     exact .inr (by omega)
    rw [if_pos hz,hd]
    have:digB s[pos]=false:=by
     unfold digB; rw [Bool.and_eq_false_iff]; exact .inr (decide_eq_false (by omega))
    rw [List.all_cons,this,Bool.false_and]
    simp
  ·rw [if_neg (by rw [hsz]; exact hp)]
   have:s.drop pos=[]:=List.drop_eq_nil_of_le (by omega)
   rw [this]; simp
def cfZoneS:Spec:=fun xs hp=>match xs,hp with
 | [.str s,.fn (.func g) [] []],[]=>some ⟨.bool (!s.all digB),[],g=117⟩
 | _,_=>none
theorem cfZone_ok : FnOk Tryz.prog 116 cfZoneS := by
 refine fnok_of_calls fun xs0 hp r hs hp' => ?_
 unfold cfZoneS at hs
 split at hs
 ·rename_i s g
  injection hs with hs; subst hs
  have hg : g = 117 := hp'
  subst hg
  refine ⟨rfl, rfl, fun w S ρ args hS ha => ?_⟩
  obtain ⟨v, vs, rfl, hv, hr⟩ := ha.get _ _ rfl
  obtain ⟨u, us, rfl, hu, hr⟩ := hr.get _ _ rfl
  obtain rfl := hr.none
  have hu' : u = .func (.func 117) #[] #[] := by
   rcases hu with h | ⟨ws, h, e⟩
   ·cases h
   ·cases h with
    | fn _ _ _ a b h1 h2 =>
     have ea : a = [] := List.eq_nil_of_length_eq_zero (by simpa using h1)
     have eb : b = [] := List.eq_nil_of_length_eq_zero (by simpa using h2)
     subst ea eb
     exact e
  rw [hv.str, hu']
  refine (Tryz.strings_ContainsFunc_runes 117 #[] (fun args w => by
   have hin : FnIn Tryz.prog 117 := fnInB_ok (by kernel_rfl)
   obtain ⟨fn, h1, h2, h3⟩ := hin
   have h2' : ¬ fn.name = "runtime.NumGoroutine" := by simpa using h2
   have h3' : ¬ fn.body = none := by intro e; rw [e] at h3; cases h3
   simp [callFunc, program, Sem.run, h1, h2', h3']) zonP ⟨s.toArray⟩ w (fun W x _ _ => by
    have := zoned1_walk x W
    exact this)).mono ?_
  rintro e w' ⟨rfl, hb⟩
  refine ⟨_, rfl, hb, fun _ _ _ => ?_⟩
  have h := zonF s s.length 0 (by omega)
  rw [List.drop_zero] at h
  have e1 : (!s.all digB) = decide (0 ≤ Lib.idxFunc zonP true ⟨s.toArray⟩) := by
   rw [Bool.eq_iff_iff]
   simp only [Bool.not_eq_true', decide_eq_true_eq]
   exact h.symm
  rw [e1]
  exact Vl.bool' _
 ·cases hs
open Go.Lib (index hasPrefix trimPrefix cut indexAny)
def idxAnyS:Spec:=fun xs hp=>match xs,hp with
 | [.str s,.str p],[]=>some ⟨.int .i64 (indexAny s p),[],asciiB p=true∧s.length<4294967281⟩
 | _,_=>none
theorem idxAny_ok:FnOk Tryz.prog 98 idxAnyS:=by
 refine fnok_of_calls fun xs0 hp r hs hp' => ?_
 unfold idxAnyS at hs
 split at hs
 ·rename_i s p
  injection hs with hs; subst hs
  obtain ⟨p1,p2⟩:=hp'
  have hA:=asciiSet_of p1
  refine ⟨rfl,rfl,fun w S ρ args hS ha=>?_⟩
  obtain ⟨v,vs,rfl,hv,hr⟩:=ha.get _ _ rfl
  obtain ⟨u,us,rfl,hu,hr⟩:=hr.get _ _ rfl
  obtain rfl:=hr.none
  rw [hv.str,hu.str]
  have hs0:(⟨s.toArray⟩:ByteArray).size=s.length:=by rw [Lib.size_eq]
  have hc0:(⟨p.toArray⟩:ByteArray).size=p.length:=by rw [Lib.size_eq]
  have h2:=hA.two
  have h3:=hA.few
  by_cases h8:s.length≤8
  ·refine (indexAny_short hA ⟨s.toArray⟩ w (by rw [hs0]; exact h8)).mono ?_
   rintro e w' ⟨rfl,hb⟩
   exact ⟨_,rfl,hb,fun _ _ _=>Vl.int' _ _⟩
  ·refine (Tryz.strings_IndexAny_long (fun w=>by kernel_rfl) ⟨s.toArray⟩ ⟨p.toArray⟩ w (by omega) (by rw [hs0]; omega) (by rw [hs0]; exact p2) (by omega) (fun j b hb=>hA.low b (List.mem_of_getElem? hb))).mono ?_
   rintro e w' ⟨rfl,rfl⟩
   exact ⟨_,rfl,((Below.refl _ _).alloc (Nat.le_refl _) _).alloc (by simp) _,fun _ _ _=>Vl.int' _ _⟩
 ·cases hs
open Go.Lib (index hasPrefix trimPrefix cut occAt indexAny replaceK replaceNum replaceAll)
theorem occAt_1 {s:List UInt8} {c:UInt8} {j:Nat} (h:occAt s [c] j=true):s[j]?=some c:=by
 unfold occAt at h
 cases hd:s.drop j with
 | nil=>rw [hd] at h; cases h
 | cons x r =>
  rw [hd] at h
  have e:c=x:=by simpa [List.isPrefixOf] using h
  have:=congrArg (fun l=>l[0]?) hd
  simpa [e] using this
theorem occAt_2 {s:List UInt8} {c d:UInt8} {j:Nat} (h:occAt s [c,d] j=true):s[j]?=some c∧s[j+1]?=some d:=by
 unfold occAt at h
 match hd:s.drop j with
 | []=>rw [hd] at h; cases h
 | [x]=>rw [hd] at h; simp [List.isPrefixOf] at h
 | x :: y :: r =>
  rw [hd] at h
  have e:c=x∧d=y:=by simpa [List.isPrefixOf] using h
  have h0:=congrArg (fun l=>l[0]?) hd
  have h1:=congrArg (fun l=>l[1]?) hd
  simp only [List.getElem?_drop,List.getElem?_cons_zero,Nat.add_zero,List.getElem?_cons_succ] at h0 h1
  exact ⟨by rw [h0,e.1],by rw [h1,e.2]⟩
theorem occAt_append (a p b:List UInt8):occAt (a ++ (p ++ b)) p a.length=true:=by
 unfold occAt
 rw [List.drop_left]
 simp [List.isPrefixOf_iff_prefix]
theorem index_app {a p b:List UInt8} (h:∀ j,j<a.length→occAt (a ++ (p ++ b)) p j=false):index (a ++ (p ++ b)) p=a.length :=
 Lib.index_first (by simp) (occAt_append a p b) h
theorem cut_app {a p b:List UInt8} (h:∀ j,j<a.length→occAt (a ++ (p ++ b)) p j=false):cut (a ++ (p ++ b)) p=(a,b,true):=by
 have e:=index_app h
 have e2:(index (a ++ (p ++ b)) p).toNat=a.length:=by omega
 unfold cut
 rw [if_pos (by omega),e2,List.take_left,← List.drop_drop,List.drop_left,List.drop_left]
theorem cut_1 {a b:List UInt8} {c:UInt8} (h:c ∉ a):cut (a ++ c :: b) [c]=(a,b,true):=by
 refine cut_app (p:=[c]) fun j hj=>?_
 rw [Bool.eq_false_iff]
 intro ho
 have:=occAt_1 ho
 rw [List.getElem?_append_left hj] at this
 exact h (List.mem_of_getElem? this)
theorem cut_1n {s:List UInt8} {c:UInt8} (h:c ∉ s):cut s [c]=(s,[],false):=by
 have e:index s [c] = -1:=by
  rcases Lib.index_spec s [c] with h1 | ⟨i,_,_,h3,_⟩
  ·exact h1.1
  ·exact absurd (List.mem_of_getElem? (occAt_1 h3)) h
 unfold cut
 rw [if_neg (by omega)]
theorem cut_2x {a b:List UInt8} {c d:UInt8} (h:c ∉ a):cut (a ++ c :: d :: b) [c,d]=(a,b,true):=by
 refine cut_app (p:=[c,d]) fun j hj=>?_
 rw [Bool.eq_false_iff]
 intro ho
 have:=(occAt_2 ho).1
 rw [List.getElem?_append_left hj] at this
 exact h (List.mem_of_getElem? this)
theorem cut_2y {a b:List UInt8} {c d:UInt8} (h:d ∉ a) (hcd:c≠d):cut (a ++ c :: d :: b) [c,d]=(a,b,true):=by
 refine cut_app (p:=[c,d]) fun j hj=>?_
 rw [Bool.eq_false_iff]
 intro ho
 have:=(occAt_2 ho).2
 rcases Nat.lt_or_ge (j+1) a.length with h1 | h1
 ·rw [List.getElem?_append_left h1] at this
  exact h (List.mem_of_getElem? this)
 ·rw [List.getElem?_append_right h1,show j+1 - a.length=0 by omega] at this
  simp only [List.cons_append,List.nil_append,List.getElem?_cons_zero,Option.some.injEq] at this
  exact hcd this
theorem cut_t {s p:List UInt8} (h:(cut s p).2.2=true):s=(cut s p).1 ++ (p ++ (cut s p).2.1):=by
 unfold cut at h ⊢
 split at h
 ·rename_i hi
  rw [if_pos hi]
  simp only
  rcases Lib.index_spec s p with h1 | ⟨i,h1,h2,h3,_⟩
  ·omega
  ·have e:(index s p).toNat=i:=by omega
   rw [e]
   unfold occAt at h3
   rw [List.isPrefixOf_iff_prefix] at h3
   obtain ⟨r,hr⟩:=h3
   rw [← List.drop_drop,← hr,List.drop_left,hr,List.take_append_drop]
 ·cases h
theorem cut_f {s p:List UInt8} (h:(cut s p).2.2=false):(cut s p).1=s∧(cut s p).2.1=[]:=by
 unfold cut at h ⊢
 split at h
 ·cases h
 ·rename_i hi
  rw [if_neg hi]
  exact ⟨rfl,rfl⟩
theorem cut_1mem {s:List UInt8} {c:UInt8}:c ∉ (cut s [c]).1:=by
 unfold cut
 split
 ·rename_i hi
  simp only
  rcases Lib.index_spec s [c] with h1 | ⟨i,h1,h2,h3,h4⟩
  ·omega
  ·have e:(index s [c]).toNat=i:=by omega
   rw [e]
   intro hm
   obtain ⟨j,hj,hg⟩:=List.getElem_of_mem hm
   rw [List.length_take] at hj
   have:=h4 j (by omega)
   rw [Bool.eq_false_iff] at this
   apply this
   rw [List.getElem_take] at hg
   unfold occAt
   rw [List.drop_eq_getElem_cons (by omega),hg]
   simp [List.isPrefixOf]
 ·rename_i hi
  simp only
  intro hm
  obtain ⟨j,hj,hg⟩:=List.getElem_of_mem hm
  rcases Lib.index_spec s [c] with h1 | ⟨i,h1,h2,h3,h4⟩
  ·have:=h1.2 j (by omega)
   rw [Bool.eq_false_iff] at this
   apply this
   unfold occAt
   rw [List.drop_eq_getElem_cons hj,hg]
   simp [List.isPrefixOf]
  ·omega
theorem cut_1f {s:List UInt8} {c:UInt8} (h:(cut s [c]).2.2=false):c ∉ s:=by
 have h1:=cut_1mem (s:=s) (c:=c)
 rwa [(cut_f h).1] at h1
theorem cut_1t {s:List UInt8} {c:UInt8} (h:c∈s):(cut s [c]).2.2=true:=by
 cases hc:(cut s [c]).2.2 with
 | true=>rfl
 | false=>exact absurd h (cut_1f hc)
theorem mem_split {c:UInt8}:∀ {s:List UInt8},c∈s→∃ a b,s=a ++ c :: b∧c ∉ a:=by
 intro s h
 exact ⟨_,_,cut_t (cut_1t h),cut_1mem⟩
def subst1 (c:UInt8) (new s:List UInt8):List UInt8:=s.flatMap fun b=>if b=c then new else [b]
theorem subst1_none {c:UInt8} {new:List UInt8}:∀ {s:List UInt8},c ∉ s→subst1 c new s=s
 | [],_=>rfl
 | b :: s,h=>by
  have hb:b≠c:=by rintro rfl; exact h (by simp)
  show (if b=c then new else [b]) ++ subst1 c new s=b :: s
  rw [if_neg hb,subst1_none fun hm=>h (by simp [hm])]; rfl
theorem subst1_app (c:UInt8) (new a b:List UInt8):subst1 c new (a ++ b)=subst1 c new a ++ subst1 c new b:=List.flatMap_append
theorem subst1_hit (c:UInt8) (new b:List UInt8):subst1 c new (c :: b)=new ++ subst1 c new b:=by
 show (if c=c then new else [c]) ++ subst1 c new b=_
 rw [if_pos rfl]
theorem subst1_miss {c x:UInt8} (new b:List UInt8) (h:x≠c):subst1 c new (x :: b)=x :: subst1 c new b:=by
 show (if x=c then new else [x]) ++ subst1 c new b=_
 rw [if_neg h]; rfl
theorem replaceK_1 (c:UInt8) (new:List UInt8):∀ (k:Nat) (s:List UInt8),s.count c≤k→replaceK [c] new k s=subst1 c new s:=by
 intro k
 induction k with
 | zero =>
  intro s h
  rw [replaceK,subst1_none (List.count_eq_zero.1 (by omega))]
 | succ k ih =>
  intro s h
  by_cases hc:c∈s
  ·obtain ⟨a,b,rfl,ha⟩:=mem_split hc
   have hi:index (a ++ c :: b) [c]=a.length:=index_app (p:=[c]) (b:=b) fun j hj=>by
    rw [Bool.eq_false_iff]
    intro ho
    have:=occAt_1 ho
    rw [List.getElem?_append_left hj] at this
    exact ha (List.mem_of_getElem? this)
   rw [Lib.replaceK_hit _ _ _ _ _ hi,List.take_left,← List.drop_drop,List.drop_left]
   have hd:(c :: b).drop ([c]:List UInt8).length=b:=rfl
   rw [hd,ih b (by rw [List.count_append,List.count_cons_self] at h; omega),subst1_app,subst1_none ha,subst1_hit,List.append_assoc]
  ·have e:index s [c] = -1:=by
    rcases Lib.index_spec s [c] with h1 | ⟨i,_,_,h3,_⟩
    ·exact h1.1
    ·exact absurd (List.mem_of_getElem? (occAt_1 h3)) hc
   rw [replaceK,if_pos (by rw [e]; rfl),subst1_none hc]
theorem replaceAll_1 {c:UInt8} {new:List UInt8} (hne:[c]≠new) (s:List UInt8):replaceAll s [c] new=subst1 c new s:=by
 unfold replaceAll Lib.replace
 rw [if_neg (by simpa using hne)]
 refine replaceK_1 c new _ s ?_
 unfold replaceNum
 rw [if_pos (.inl (by omega)),Lib.count_one]
 omega
theorem subst1_len (c:UInt8) (new s:List UInt8):(subst1 c new s).length≤s.length * (new.length+1):=by
 induction s with
 | nil=>simp [subst1]
 | cons b s ih =>
  have:(subst1 c new (b :: s)).length≤(new.length+1)+(subst1 c new s).length:=by
   by_cases h:b=c
   ·subst h; rw [subst1_hit,List.length_append]; omega
   ·rw [subst1_miss _ _ h,List.length_cons]; omega
  rw [List.length_cons,Nat.add_mul]; omega
theorem countB_le1 (s:List UInt8) (c:UInt8):Lib.countB ⟨s.toArray⟩ ⟨[c].toArray⟩≤s.length:=Lib.countB_le ⟨[c].toArray⟩ (show 1≤(⟨[c].toArray⟩:ByteArray).size from Nat.le_refl 1) s.length ⟨s.toArray⟩ (Nat.le_of_eq rfl)
theorem maxLen_cell {w:World} {S:Nat→Prop} (h:GlobOk w S):∃ m,w.cell? ⟨0,0,none⟩=some (.int .i64 m):=(h.2 0 (by kernel_rfl)).2
def cutS:Spec:=fun xs hp=>match xs,hp with
 | [.str s,.str p],[]=>some ⟨.tup [.str (cut s p).1,.str (cut s p).2.1,.bool (cut s p).2.2],[],s.length<4294967281⟩
 | _,_=>none
theorem cut_ok:FnOk Tryz.prog 82 cutS:=by
 refine fnok_of_calls fun xs0 hp r hs hp' => ?_
 unfold cutS at hs
 split at hs
 ·rename_i s p
  injection hs with hs; subst hs
  refine ⟨rfl,rfl,fun w S ρ args hS ha=>?_⟩
  obtain ⟨m,hm⟩:=maxLen_cell ha.glob
  obtain ⟨v,vs,rfl,hv,hr⟩:=ha.get _ _ rfl
  obtain ⟨u,us,rfl,hu,hr⟩:=hr.get _ _ rfl
  obtain rfl:=hr.none
  rw [hv.str,hu.str]
  refine (Tryz.strings_Cut ⟨s.toArray⟩ ⟨p.toArray⟩ m w (by rw [Lib.size_eq]; exact hp') hm).mono ?_
  rintro e w' ⟨rfl,n,rfl⟩
  exact ⟨_,rfl,belowN (Below.refl _ _) n,fun _ _ _=>Vl.tup3 (Vl.str' _) (Vl.str' _) (Vl.bool' _)⟩
 ·cases hs
open Go.Lib (index replaceAll)
def replS:Spec:=fun xs hp=>match xs,hp with
 | [.str s,.str [c],.str new],[]=>some ⟨.str (subst1 c new s),[],s.length≤1000000∧new.length≤1000∧decide ([c]=new)=false⟩
 | _,_=>none
theorem repl_ok:FnOk Tryz.prog 52 replS:=by
 refine fnok_of_calls fun xs0 hp r hs hp' => ?_
 unfold replS at hs
 split at hs
 ·rename_i s c new
  injection hs with hs; subst hs
  obtain ⟨p1,p2,p3⟩:=hp'
  refine ⟨rfl,rfl,fun w S ρ args hS ha=>?_⟩
  obtain ⟨v,vs,rfl,hv,hr⟩:=ha.get _ _ rfl
  obtain ⟨u,us,rfl,hu,hr⟩:=hr.get _ _ rfl
  obtain ⟨z,zs,rfl,hz,hr⟩:=hr.get _ _ rfl
  obtain rfl:=hr.none
  rw [hv.str,hu.str,hz.str]
  obtain ⟨m,hm⟩:=maxLen_cell ha.glob
  have hc:=countB_le1 s c
  have h2:Lib.countB ⟨s.toArray⟩ ⟨[c].toArray⟩ * new.length≤1000000 * 1000:=Nat.mul_le_mul (by omega) p2
  refine (Tryz.strings_ReplaceAll ⟨s.toArray⟩ ⟨[c].toArray⟩ ⟨new.toArray⟩ m w (show s.length<4294967281 by omega) hm (Nat.le_refl 1) (show s.length+Lib.countB ⟨s.toArray⟩ ⟨[c].toArray⟩ * new.length≤140737488355328 by omega)).mono ?_
  rintro e w' ⟨rfl,hb⟩
  refine ⟨_,rfl,hb,fun _ _ _=>?_⟩
  have e1:replaceAll s [c] new=subst1 c new s:=replaceAll_1 (of_decide_eq_false p3) s
  show Vl _ _ _ (.str (subst1 c new s)) (.string ⟨(replaceAll s [c] new).toArray⟩)
  rw [e1]
  exact Vl.str' _
 ·cases hs
theorem contains_1 (s:List UInt8) (c:UInt8):Lib.contains s [c]=s.contains c:=by
 unfold Lib.contains
 rw [Bool.eq_iff_iff]
 rcases Lib.index_spec s [c] with h1 | ⟨i,h1,h2,h3,h4⟩
 ·have hn:c ∉ s:=by
   intro hm
   obtain ⟨a,b,rfl,_⟩:=mem_split hm
   have:=h1.2 a.length (by simp)
   rw [show a ++ c :: b=a ++ ([c] ++ b) from rfl,occAt_append] at this
   cases this
  have e:index s [c] = -1:=h1.1
  simp [e,hn]
 ·have hm:=List.mem_of_getElem? (occAt_1 h3)
  simp [h1,hm]
def containsS:Spec:=fun xs hp=>match xs,hp with
 | [.str s,.str [c]],[]=>some ⟨.bool (s.contains c),[],s.length≤1000000⟩
 | _,_=>none
theorem contains_ok:FnOk Tryz.prog 89 containsS:=by
 refine fnok_of_calls fun xs0 hp r hs hp' => ?_
 unfold containsS at hs
 split at hs
 ·rename_i s c
  injection hs with hs; subst hs
  have p1:s.length≤1000000:=hp'
  refine ⟨rfl,rfl,fun w S ρ args hS ha=>?_⟩
  obtain ⟨v,vs,rfl,hv,hr⟩:=ha.get _ _ rfl
  obtain ⟨u,us,rfl,hu,hr⟩:=hr.get _ _ rfl
  obtain rfl:=hr.none
  rw [hv.str,hu.str]
  obtain ⟨m,hm⟩:=maxLen_cell ha.glob
  refine (Tryz.strings_Contains ⟨s.toArray⟩ ⟨[c].toArray⟩ m w (show s.length<4294967281 by omega) hm).mono ?_
  rintro e w' ⟨rfl,rfl⟩
  refine ⟨_,rfl,Below.refl _ _,fun _ _ _=>?_⟩
  show Vl _ _ _ (.bool (s.contains c)) (.bool (Lib.contains s [c]))
  rw [contains_1]
  exact Vl.bool' _
 ·cases hs
def o8 (n:Nat):UInt8:=UInt8.ofNat n
theorem o8_toNat (n:Nat):(o8 n).toNat=n % 256:=by simp [o8]
theorem ub_o8 (n:Nat):ub (o8 n)=.int .u8 ((n % 256:Nat):Int):=by simp [ub,o8_toNat]
theorem Bs_o8 (n:Nat) (h:n<256):[(.int .u8 (n:Int):AV)]=Bs [o8 n]:=by simp [Bs,ub_o8,Nat.mod_eq_of_lt h]
open Go.Lib (decDigits itoa atoiAll parseUint10 parseMag nDigits)
def dc (d:Nat):UInt8:=UInt8.ofNat (48+d)
theorem dc_toNat {d:Nat} (h:d<10):(dc d).toNat=48+d:=by simp [dc]; omega
theorem dc_of {c:UInt8} (h:48≤c.toNat) (h' : c.toNat≤57):dc (c.toNat - 48)=c:=by
 apply UInt8.toNat_inj.1; rw [dc_toNat (by omega)]; omega
theorem decD_small {n:Nat} (h:n<10):decDigits n=[dc n]:=by rw [decDigits,dif_pos h]; rfl
theorem decD_big {n:Nat} (h:10≤n):decDigits n=decDigits (n / 10) ++ [dc (n % 10)]:=by rw [decDigits,dif_neg (by omega)]; rfl
theorem decD_pos (n:Nat):0<(decDigits n).length:=by
 by_cases h:n<10
 ·rw [decD_small h]; simp
 ·rw [decD_big (by omega)]; simp
theorem decD_pow (k n:Nat) (h:n<10 ^ (k+1)):(decDigits n).length≤k+1:=by
 induction k generalizing n with
 | zero=>rw [decD_small (by simpa using h)]; simp
 | succ k ih =>
  by_cases h1:n<10
  ·rw [decD_small h1]; simp
  ·rw [decD_big (by omega)]
   have:=ih (n / 10) (by rw [Nat.pow_succ] at h; omega)
   simp; omega
theorem decD_head (n:Nat):∃ d r,decDigits n=dc d :: r∧d<10∧(0<n→0<d)∧(n<10→r=[]):=by
 induction n using Nat.strongRecOn with
 | _ n ih =>
  by_cases h:n<10
  ·exact ⟨n,[],decD_small h,h,fun h=>h,fun _=>rfl⟩
  ·obtain ⟨d,r,e,h1,h2,_⟩:=ih (n / 10) (by omega)
   refine ⟨d,r ++ [dc (n % 10)],by rw [decD_big (by omega),e]; rfl,h1,fun _=>h2 (by omega),fun hh=>absurd hh h⟩
theorem itoa_nat (n:Nat):itoa (n:Int)=decDigits n:=Lib.itoa_nonneg n
theorem pu_dec (n:Nat) (h:n<18446744073709551616) (r:List UInt8):parseUint10 0 (decDigits n ++ r)=parseUint10 n r:=by
 induction n using Nat.strongRecOn generalizing r with
 | _ n ih =>
  by_cases h1:n<10
  ·rw [decD_small h1]
   simp only [List.cons_append,List.nil_append,parseUint10,dc_toNat h1]
   rw [if_pos (by omega),if_neg (by omega),if_neg (by omega)]
   congr 1; omega
  ·rw [decD_big (by omega),List.append_assoc,ih (n / 10) (by omega) (by omega)]
   have hd:n % 10<10:=by omega
   simp only [List.cons_append,List.nil_append,parseUint10,dc_toNat hd]
   rw [if_pos (by omega),if_neg (by omega),if_neg (by omega)]
   congr 1; omega
theorem atoi_dec (n:Nat) (h:n<9223372036854775808):atoiAll (decDigits n)=.ok (n:Int):=by
 obtain ⟨d,r,e,h1,_,_⟩:=decD_head n
 have hp:parseMag (decDigits n)=.ok n:=by
  have:=pu_dec n (by omega) []
  rw [List.append_nil] at this
  unfold parseMag
  rw [if_neg (by rw [e]; simp),this]; rfl
 have ht:=dc_toNat h1
 rw [e] at hp ⊢
 unfold atoiAll
 simp only [ht]
 rw [if_neg (by omega),hp]
 simp only
 rw [if_neg (by omega),if_neg (by omega),if_neg (by omega)]
def decV (s:List UInt8):Option Nat :=
 match atoiAll s with
 | .ok v=>if 0≤v∧v<4611686018427387904∧itoa v=s then some v.toNat else none
 | _=>none
theorem decV_dec (n:Nat) (h:n<4611686018427387904):decV (decDigits n)=some n:=by
 unfold decV
 rw [atoi_dec n (by omega)]
 simp only
 rw [if_pos ⟨by omega,by omega,itoa_nat n⟩]; rfl
theorem decV_some {s:List UInt8} {n:Nat} (h:decV s=some n):s=decDigits n∧n<4611686018427387904:=by
 unfold decV at h
 split at h
 ·split at h
  ·rename_i v _ hc
   obtain ⟨h1,h2,h3⟩:=hc
   injection h with h
   subst h
   refine ⟨?_,by omega⟩
   rw [← h3,← itoa_nat,Int.toNat_of_nonneg h1]
  ·cases h
 ·cases h
def rgo (acc:Nat):List UInt8→Option Nat
 | []=>some acc
 | c :: r=>if c.toNat<48∨57<c.toNat then none else if (4611686018427387903 - (c.toNat - 48)) / 10<acc then none else rgo (10 * acc+(c.toNat - 48)) r
def rdecV (s:List UInt8):Option Nat:=if s.length=0∨19<s.length∨(1<s.length∧(s.getD 0 0).toNat=48) then none else rgo 0 s
theorem rgo_dec (n:Nat) (h:n<4611686018427387904) (r:List UInt8):rgo 0 (decDigits n ++ r)=rgo n r:=by
 induction n using Nat.strongRecOn generalizing r with
 | _ n ih =>
  by_cases h1:n<10
  ·rw [decD_small h1]
   simp only [List.cons_append,List.nil_append,rgo,dc_toNat h1]
   rw [if_neg (by omega),if_neg (by omega)]
   congr 1; omega
  ·rw [decD_big (by omega),List.append_assoc,ih (n / 10) (by omega) (by omega)]
   have hd:n % 10<10:=by omega
   simp only [List.cons_append,List.nil_append,rgo,dc_toNat hd]
   rw [if_neg (by omega),if_neg (by omega)]
   congr 1; omega
theorem rgo_back:∀ (l:List UInt8) (acc n:Nat),1≤acc→acc<4611686018427387904→rgo acc l=some n→decDigits acc ++ l=decDigits n∧n<4611686018427387904:=by
 intro l
 induction l with
 | nil=>intro acc n _ h2 h; simp only [rgo,Option.some.injEq] at h; subst h; exact ⟨List.append_nil _,h2⟩
 | cons c r ih =>
  intro acc n h1 h2 h
  simp only [rgo] at h
  split at h
  ·cases h
  ·split at h
   ·cases h
   ·obtain ⟨k1,k2⟩:=ih _ n (by omega) (by omega) h
    refine ⟨?_,k2⟩
    rw [← k1,decD_big (n:=10 * acc+_) (by omega),show (10 * acc+(c.toNat - 48)) / 10=acc by omega,show (10 * acc+(c.toNat - 48)) % 10=c.toNat - 48 by omega,dc_of (by omega) (by omega),List.append_assoc]
    rfl
theorem rdecV_eq (s:List UInt8):rdecV s=decV s:=by
 have some_of:∀ n,n<4611686018427387904→rdecV (decDigits n)=some n:=by
  intro n hn
  obtain ⟨d,r,e,h1,h2,h3⟩:=decD_head n
  have hl:=decD_pow 18 n (by omega)
  unfold rdecV
  rw [if_neg,← List.append_nil (decDigits n),rgo_dec n hn]
  ·rfl
  ·rintro (h | h | ⟨h,k⟩)
   ·have:=decD_pos n; omega
   ·omega
   ·rw [e] at k h
    simp only [List.getD_cons_zero,dc_toNat h1] at k
    by_cases hn:n<10
    ·rw [h3 hn] at h; simp at h
    ·have:=h2 (by omega); omega
 cases h:decV s with
 | some n =>
  obtain ⟨rfl,hn⟩:=decV_some h
  exact some_of n hn
 | none =>
  cases h' : rdecV s with
  | none=>rfl
  | some n =>
   exfalso
   unfold rdecV at h'
   split at h'
   ·cases h'
   ·rename_i hc
    cases s with
    | nil=>exact hc (.inl rfl)
    | cons c r =>
     simp only [rgo] at h'
     split at h'
     ·cases h'
     ·split at h'
      ·cases h'
      ·rename_i hd hb
       by_cases hr:r=[]
       ·subst hr
        simp only [rgo,Option.some.injEq] at h'
        have e:[c]=decDigits n:=by rw [← h',decD_small (by omega),show 10 * 0+(c.toNat - 48)=c.toNat - 48 by omega,dc_of (by omega) (by omega)]
        rw [e,decV_dec n (by omega)] at h; cases h
       ·have hlen:1<(c :: r).length:=by have:=List.length_pos_iff.2 hr; simp; omega
        have hne:c.toNat≠48:=fun e=>hc (.inr (.inr ⟨hlen,e⟩))
        obtain ⟨k1,k2⟩:=rgo_back r _ n (by omega) (by omega) h'
        rw [decD_small (by omega),show 10 * 0+(c.toNat - 48)=c.toNat - 48 by omega,dc_of (by omega) (by omega)] at k1
        rw [show c :: r=[c] ++ r from rfl,k1,decV_dec n k2] at h; cases h
open Go.Lib (itoa)
open Go.Sort (grow)
theorem tab_of {w : World} {S : Nat → Prop} (h : GlobOk w S) : Lib.TabIs Tryz.prog w "internal/strconv.uint64pow10" .u64 Lib.pow10Tab := by
 obtain ⟨_, us, t, fr, h2, _, h4⟩ := h.1 3 20 (.blob (Lib.pow10Tab.map fun z => .int .u64 z)) (by kernel_rfl)
 have h5 : us = Lib.pow10Tab.map fun z => Value.int .u64 z := by cases h2; rfl
 unfold Lib.TabIs World.var?
 rw [show Tryz.prog.globalNamed "internal/strconv.uint64pow10" = some 3 by kernel_rfl]
 simp only [Option.bind_some, h4, h5]
theorem below_grow (w:World) (k:Nat) (os:Array Obj):Below w.heap.size w (grow (w.drewN k) os):=by
 have e:∀ k,(w.drewN k).heap=w.heap∧(w.drewN k).os=w.os∧(w.drewN k).tape=w.tape∧(w.drewN k).output=w.output:=by
  intro k
  induction k with
  | zero=>exact ⟨rfl,rfl,rfl,rfl⟩
  | succ k ih=>simpa [World.drewN] using ih
 obtain ⟨e1,e2,e3,e4⟩:=e k
 refine ⟨by simp [grow,e2],by simp [grow],by simp [grow,e4],by simp [grow],fun j hj=>?_⟩
 simp [grow,Array.getElem?_append_left hj]
def itoaS:Spec:=fun xs hp=>match xs,hp with
 | [.int .i64 n],[]=>some ⟨.str (itoa n),[],inI n⟩
 | _,_=>none
theorem itoa_ok:FnOk Tryz.prog 90 itoaS:=by
 refine fnok_of_calls fun xs0 hp r hs hp' => ?_
 unfold itoaS at hs
 split at hs
 ·rename_i n
  injection hs with hs; subst hs
  refine ⟨rfl,rfl,fun w S ρ args hS ha=>?_⟩
  obtain ⟨v,vs,rfl,hv,hr⟩:=ha.get _ _ rfl
  obtain rfl:=hr.none
  rw [hv.int]
  refine (Tryz.strconv_Itoa n hp'.1 hp'.2 w (tab_of ha.glob)).mono ?_
  rintro e w' ⟨rfl,k,os,rfl⟩
  exact ⟨_,rfl,below_grow w k os,fun _ _ _=>Vl.str' _⟩
 ·cases hs
def c_ndec:ACode:=(.seq (.reg none [oS 2 (.mv (.c (.str [])))]) (.seq (.reg none [oS 3 (.mv (.t 0)),oS 4 (.call 90 [(.t 3)]),oS 2 (.mv (.t 4))]) .ret))
def r_ndec:List ARes:=[(.t 2)]
theorem s_ndec:slimF Tryz.prog Tryz.f62=some (c_ndec,r_ndec):=by kernel_rfl
theorem ndec_ok:FnOk Tryz.prog 62 itoaS:=by
 refine fn_slim2 Tryz.func62 s_ndec (Φ:=phiL [(90,[],itoaS)]) (phi_cons itoa_ok (by kernel_rfl) phi_nil) ?_
 intro xs hp r hs hp'
 unfold itoaS at hs
 split at hs
 ·injection hs with hs; subst hs
  rename_i k
  refine ⟨len_le (by kernel_rfl),?_⟩
  simp only [c_ndec,r_ndec,itoaS,go_sem,reduceDiv,reduceMod,↓reduceIte]
  first | exact hp' | exact ⟨hp',rfl⟩ | trivial
 ·cases hs
def be:Nat→Nat→List UInt8
 | 0,_=>[]
 | k+1,n=>byteOf ((n / 256 ^ k % 256:Nat):Int) :: be k n
structure Hk where
 fr:Nat
 tt:Nat
 b:List UInt8
structure HRec where
 f:Int
 t:Int
 A:Option Addr
 c:Nat
 b:List UInt8
def HRec.cells (h:HRec):List Value:=[.int .i64 h.f,.int .i64 h.t,.slice h.A h.b.length h.c]
def hcells (hs:List HRec):List Value:=hs.flatMap HRec.cells
def u64 (x:Int):Nat:=(x % 18446744073709551616).toNat
structure HkV where
 err:Bool
 fr:Nat
 tt:Nat
 A:Option Addr
 c:Nat
 b:List UInt8
def rot:Nat→Nat→Nat
 | x,0=>x
 | x,n+1=>2 * rot x n % 4294967296+2 * rot x n / 4294967296
structure ShSt where
 a:Nat
 b:Nat
 c:Nat
 d:Nat
 e:Nat
def nextW (L:List Nat) (i:Nat):Nat:=rot (L.getD (i - 3) 0 ^^^ L.getD (i - 8) 0 ^^^ L.getD (i - 14) 0 ^^^ L.getD (i - 16) 0) 1
def ext:Nat→List Nat→List Nat
 | 0,L=>L
 | n+1,L=>ext n (L ++ [nextW L L.length])
attribute [irreducible] ext nextW rot
def digs:List UInt8:=[48,49,50,51,52,53,54,55,56,57,97,98,99,100,101,102]
def hexL:List UInt8→List UInt8
 | []=>[]
 | b :: l=>digs.getD (b.toNat / 16) 0 :: digs.getD (b.toNat % 16) 0 :: hexL l
theorem hexL_length:∀ l,(hexL l).length=2 * l.length
 | []=>rfl
 | b :: l=>by simp [hexL,hexL_length l]; omega
theorem hexL_append:∀ l m,hexL (l ++ m)=hexL l ++ hexL m
 | [],m=>rfl
 | b :: l,m=>by simp [hexL,hexL_append l m]
set_option maxHeartbeats 1000000 in
set_option maxRecDepth 100000 in
theorem copyCheck_used (b:Nat) (w:World) (h0:w.cell? ⟨b,0,none⟩=some (.pointer (some ⟨b,0,none⟩))) :
  Calls Tryz.prog 79 #[.pointer (some ⟨b,0,none⟩)] w fun e w' => e=.returned (.tuple #[])∧w' = w:=by
 obtain ⟨j,hj,_⟩:=Option.map_eq_some_iff.1 (show (Tryz.prog.info? 97).map (·.size)=some 2 by kernel_rfl)
 go_enter Tryz.func79,Tryz.ntmps79
 go_wp2
 rw [Lib.run_neq_ptr_same w _ Tryz.underlying95 hj]
 go_wp2
 go_end0
 exact ⟨rfl,rfl⟩
set_option maxHeartbeats 1000000 in
set_option maxRecDepth 100000 in
theorem copyCheck_fresh (b:Nat) (w:World) (h0:w.cell? ⟨b,0,none⟩=some (.pointer none)) (hsh:w.shape? b=some (97,2)) (hfz:w.frozen? ⟨b,0,none⟩=false) :
  Calls Tryz.prog 79 #[.pointer (some ⟨b,0,none⟩)] w fun e w' => e=.returned (.tuple #[])∧w' = w.setCell ⟨b,0,none⟩ (.pointer (some ⟨b,0,none⟩)):=by
 obtain ⟨j,hj,hjs⟩:=Option.map_eq_some_iff.1 (show (Tryz.prog.info? 97).map (·.size)=some 2 by kernel_rfl)
 go_enter Tryz.func79,Tryz.ntmps79
 go_wp2
 rw [Lib.run_to_unsafe w ⟨b,0,none⟩ Tryz.underlying95 Tryz.underlying148 hj (by rw [hjs]; decide) hsh (Nat.zero_lt_succ 1)]
 simp only [Result.andThen]
 rw [Oper.upon_value]
 go_wp2
 rw [run_callFunc_extern Tryz.func100 (by kernel_rfl) (by kernel_rfl) (by kernel_rfl) (e:=Extern.AbiNoEscape.same) (by kernel_rfl)]
 rw [Lib.run_noEscape]
 simp only [Result.andThen]
 rw [Oper.upon_value]
 go_wp2
 rw [Lib.run_from_unsafe w ⟨b,0,none⟩ Tryz.underlying148 Tryz.underlying95 hj hsh (show liesAt Tryz.prog Tryz.prog.depth 97 (2 / Tryz.prog.cellsOf 97) 0 97 1=true by kernel_rfl)]
 simp only [Result.andThen]
 rw [Oper.upon_value]
 go_wp2
 go_end0
 exact ⟨rfl,rfl⟩
theorem copyCheck (B b:Nat) (bs:List Value) (w:World) (h:Lib.IsBuilder 97 5 B b bs w) :
  Calls Tryz.prog 79 #[.pointer (some ⟨b,0,none⟩)] w fun e w' => e=.returned (.tuple #[])∧(Lib.BuilderAt 97 5 B b (.pointer (some ⟨b,0,none⟩)) bs w' ∧ Below B w w'):=by
 rcases h with h | h
 ·refine (copyCheck_fresh b w h.cell0 h.shape h.frozen0).mono ?_
  rintro e w' ⟨rfl,rfl⟩
  exact ⟨rfl,h.used _,(Below.refl B w).setCell (p:=⟨b,0,none⟩) h.1 _⟩
 ·refine (copyCheck_used b w h.cell0).mono ?_
  rintro e w' ⟨rfl,rfl⟩
  exact ⟨rfl,h,Below.refl B _⟩
set_option maxHeartbeats 2000000 in
set_option maxRecDepth 100000 in
theorem writeByte (B b:Nat) (bs:List Value) (c:Int) (w:World) (h:Lib.IsBuilder 97 5 B b bs w) (hlen:bs.length+1≤140737488355328) (hBw:B≤w.heap.size) :
  Calls Tryz.prog 80 #[.pointer (some ⟨b,0,none⟩),.int .u8 c] w fun e w' => e=.returned .nilIface∧(Lib.BuilderAt 97 5 B b (.pointer (some ⟨b,0,none⟩)) (bs ++ [.int .u8 c]) w' ∧ Below B w w'):=by
 obtain ⟨i0,hi,hz0,hz1,hz2⟩:=info_parts (show (Tryz.prog.info? 5).map (fun i=>(i.zero,i.size,i.bytes))=some (some (.int .u8 0),1,1) by kernel_rfl)
 go_enter Tryz.func80,Tryz.ntmps80
 go_wp2_with (go_at_call 79; refine (copyCheck B b bs _ h).mono ?_)
 rintro e w1 ⟨rfl,h1,hb1⟩
 obtain ⟨hB,v,hbk,hown,hne⟩:=h1
 have c0:w1.cell? ⟨b,0,none⟩=some (.pointer (some ⟨b,0,none⟩)):=by rw [Lib.cell_of_heap hbk]; rfl
 have c1:w1.cell? ⟨b,1,none⟩=some v:=by rw [Lib.cell_of_heap hbk]; rfl
 go_wp2_with (at_builtin; refine wpList_append_own _ rfl _ _ 71 rfl B 5 i0 (.int .u8 0) 1 1 Tryz.underlying71 hi hz0 hz1 hz2 rfl (by decide) _ _ _ rfl (hown.alloc _) ⟨w1.heap.size,0,none⟩ 1 1 [.int .u8 c] rfl rfl ?c1 ?c2 ?c3 ?c4 ?c5 ?_)
 case c1 =>
  intro j u hj
  match j,hj with
  | 0,hj=>simp at hj; subst hj; simp [Addr.add]
 case c2=>intro u hu; simp at hu; subst hu; rfl
 case c3=>unfold maxLen; omega
 case c4=>omega
 case c5=>have:=hb1.size; simp; omega
 intro v' w2 hown' hgrow _
 have hlt:b<w1.heap.size:=by
  rcases Nat.lt_or_ge b w1.heap.size with h' | h'
  ·exact h'
  ·simp [Array.getElem?_eq_none h'] at hbk
 have hb2:w2.heap[b]?=some (.cells #[.pointer (some ⟨b,0,none⟩),v] 97 (0,0)):=by
  rw [hgrow.block b (by simp; omega) (fun e=>hne e.symm),Lib.alloc_old w1 _ b hlt]
  exact hbk
 have d0:w2.cell? ⟨b,0,none⟩=some (.pointer (some ⟨b,0,none⟩)):=by rw [Lib.cell_of_heap hb2]; rfl
 have d1:w2.cell? ⟨b,1,none⟩=some v:=by rw [Lib.cell_of_heap hb2]; rfl
 have f1:w2.frozen? ⟨b,1,none⟩=false:=Lib.frozen_of_heap hb2 1
 obtain ⟨g,cap,rfl⟩:∃ g cap,v' = .slice (some ⟨g,0,none⟩) (bs.length+1) cap:=by
  rcases hown'.2 with ⟨_,h0⟩ | ⟨g,cap,cur,hv,_⟩
  ·omega
  ·exact ⟨g,cap,hv⟩
 go_wp2
 go_ret
 refine ⟨rfl,?_,?_⟩
 ·exact Lib.BuilderAt.put (T:=97) (e:=5) hB hb2 (bs' := bs ++ [.int .u8 c]) (by simpa using hown') (by decide)
 ·exact ((hb1.alloc (by have:=hb1.size; omega) _).grown hgrow (by have:=hb1.size; simp; omega) (fun k hk=>(hown.lt k hk).1)).setCell (p:=⟨b,1,none⟩) hB _
end Go.Proofs.YtgaehhechonegaaGreatDoor

namespace Go.Proofs.YtgaehhechonegaaGreatDoor
open Go.RowKit
theorem wpList_stop_load {P:Program} {ops:Array Oper} {Q:Exit→Act→World→Prop} {a:Act} {w:World} {rest:List Oper} {o:Oper} {ty:TypeId} {x:Operand} (_ho:o.op=.load ty x) (h:Stop (wpList P ops Q (o :: rest) a w)):wpList P ops Q (o :: rest) a w:=h
theorem info20:(Tryz.prog.info? 29).map (fun i=>i.size)=some 20:=by kernel_rfl
def z20:Array Value:=(List.replicate 20 (Value.int .u8 0)).toArray
theorem zero20 (w:World):(zeroValue 29).run Tryz.prog w=.ok (.agg z20) w:=by
 unfold z20; kernel_rfl
theorem index20 (l:List UInt8) (j:Nat) (hl:l.length=20) (hj:j<20) (w:World):(Instr.index 29 (.agg (l.map U).toArray) (.int .i64 (j:Int))).run Tryz.prog w=.ok (U (l.getD j 0)) w:=by
 have h1:(l.map U).toArray[j]?=some (U (l.getD j 0)):=by
  simp [List.getElem?_eq_getElem (show j<l.length by omega)]
 have e:(l.map U).toArray.size=20:=by simp; omega
 have hz:(0:Int)≤(j:Int):=by omega
 have hw:IntKind.i64.wrap (j:Int)=j:=IntWalk.i64_in _ (by omega)
 have hj2:(j:Int)<20:=by omega
 simp [go_sem,Instr.index,run_underlying Tryz.underlying29,hz]
 rw [if_pos hj,List.getElem?_eq_getElem (show j<l.length by omega)]
 rfl
def digS:ByteArray:=⟨#[48,49,50,51,52,53,54,55,56,57,97,98,99,100,101,102]⟩
theorem indexDig (k:Nat) (hk:k<16) (w:World):(Instr.index 9 (.string digS) (.int .u8 (k:Int))).run Tryz.prog w=.ok (.int .u8 ((digs.getD k 0).toNat:Int)) w:=by
 match k,hk with
 | 0,_=>exact (run_index_string w 9 digS .u8 _ Tryz.underlying9).trans rfl
 | 1,_=>exact (run_index_string w 9 digS .u8 _ Tryz.underlying9).trans rfl
 | 2,_=>exact (run_index_string w 9 digS .u8 _ Tryz.underlying9).trans rfl
 | 3,_=>exact (run_index_string w 9 digS .u8 _ Tryz.underlying9).trans rfl
 | 4,_=>exact (run_index_string w 9 digS .u8 _ Tryz.underlying9).trans rfl
 | 5,_=>exact (run_index_string w 9 digS .u8 _ Tryz.underlying9).trans rfl
 | 6,_=>exact (run_index_string w 9 digS .u8 _ Tryz.underlying9).trans rfl
 | 7,_=>exact (run_index_string w 9 digS .u8 _ Tryz.underlying9).trans rfl
 | 8,_=>exact (run_index_string w 9 digS .u8 _ Tryz.underlying9).trans rfl
 | 9,_=>exact (run_index_string w 9 digS .u8 _ Tryz.underlying9).trans rfl
 | 10,_=>exact (run_index_string w 9 digS .u8 _ Tryz.underlying9).trans rfl
 | 11,_=>exact (run_index_string w 9 digS .u8 _ Tryz.underlying9).trans rfl
 | 12,_=>exact (run_index_string w 9 digS .u8 _ Tryz.underlying9).trans rfl
 | 13,_=>exact (run_index_string w 9 digS .u8 _ Tryz.underlying9).trans rfl
 | 14,_=>exact (run_index_string w 9 digS .u8 _ Tryz.underlying9).trans rfl
 | 15,_=>exact (run_index_string w 9 digS .u8 _ Tryz.underlying9).trans rfl
 | k+16,hk=>exact absurd hk (by omega)
theorem u8_hi (u:UInt8):(u.toNat:Int) / 16=((u.toNat / 16:Nat):Int):=by omega
theorem u8_lo (u:UInt8):bits .and .u8 (u.toNat:Int) 15=((u.toNat % 16:Nat):Int):=by
 have h:=u8_and_nat u.toNat 15 u.toNat_lt (by omega)
 rw [show ((15:Nat):Int)=15 from rfl] at h
 rw [h,show (15:Nat)=2 ^ 4 - 1 from rfl,Nat.and_two_pow_sub_one_eq_mod]
theorem hexL_take (l:List UInt8) (k:Nat) (u:UInt8) (hk:k<l.length) (hu:l.getD k 0=u):hexL (l.take (k+1))=hexL (l.take k) ++ [digs.getD (u.toNat / 16) 0] ++ [digs.getD (u.toNat % 16) 0]:=by
 have e:l.take (k+1)=l.take k ++ [u]:=by
  rw [List.take_succ,List.getElem?_eq_getElem hk,← hu]
  simp [List.getElem?_eq_getElem hk]
 rw [e,hexL_append]
 simp [hexL]
theorem byteCells_snoc (X:List UInt8) (d:UInt8):Lib.byteCells X ++ [.int .u8 (d.toNat:Int)]=Lib.byteCells (X ++ [d]):=by simp [Lib.byteCells]
set_option maxHeartbeats 2000000 in
set_option maxRecDepth 100000 in
theorem shaHex (l:List UInt8) (h20:l.length=20) (w:World) :
  Calls Tryz.prog 51 #[.agg (l.map U).toArray] w fun e w' => e=.returned (.string ⟨(hexL l).toArray⟩)∧Below w.heap.size w w' := by
 go_enter Tryz.func51,Tryz.ntmps51
 go_wp2_with (with_reducible refine wpList_stop_load (ty:=29) (x:=.tmp 1) rfl ?_)
 have hS:=((Sep.start w).allocC (l.map U).toArray 29).allocC #[.pointer none,.slice none 0 0] 97
 rw [show (w.alloc (.cells (l.map U).toArray 29)).heap.size=w.heap.size+1 from World.size_alloc _ _] at hS
 refine unstop (wpList_load_row rfl 29 (.tmp 1) rfl w.heap.size rfl 29 (l.map U).toArray (0,0) _ (hS.blk 0 rfl) Tryz.underlying29 rfl (by rw [show (l.map U).toArray.size=20 by simp [h20]]; exact info20) ?_)
 have hb:Lib.IsBuilder 97 5 w.heap.size (w.heap.size+1) (Lib.byteCells (hexL [])) ((w.alloc (.cells (l.map U).toArray 29)).alloc (.cells #[.pointer none,.slice none 0 0] 97)) :=
  Or.inl ⟨by omega,.slice none 0 0,hS.blk 1 rfl,World.ownsRow_nil _ _ _ _,by simp [Value.ownBlock]⟩
 have hB:=hS.below
 clear hS
 go_wp2
 go_loopw [7] (fun i wr=>∃ k:Nat,k≤20∧i=.int .i64 k∧Lib.IsBuilder 97 5 w.heap.size (w.heap.size+1) (Lib.byteCells (hexL (l.take k))) wr∧Below w.heap.size w wr)
  (fun i _=>20 - (intOf i).toNat)
 case atStart=>exact ⟨0,by omega,rfl,by simpa using hb,hB⟩
 case round =>
  clear hb hB
  obtain ⟨k,hk,rfl,hb,hB⟩:=hrel
  by_cases hlt:k<20
  ·obtain ⟨u,hu⟩:∃ u,l.getD k 0=u:=⟨_,rfl⟩
   have hx:∀ w,(Instr.index 29 (.agg (l.map U).toArray) (.int .i64 (k:Int))).run Tryz.prog w=.ok (.int .u8 (u.toNat:Int)) w:=by
    rw [← hu]; exact index20 l k h20 hlt
   have h1:∀ w,(Instr.index 9 (.string ⟨#[48,49,50,51,52,53,54,55,56,57,97,98,99,100,101,102]⟩) (.int .u8 ((u.toNat:Int) / 16))).run Tryz.prog w=.ok (.int .u8 ((digs.getD (u.toNat / 16) 0).toNat:Int)) w:=fun w=>by
    have:=u.toNat_lt
    rw [u8_hi]; exact indexDig _ (by omega) w
   have h2:∀ w,(Instr.index 9 (.string ⟨#[48,49,50,51,52,53,54,55,56,57,97,98,99,100,101,102]⟩) (.int .u8 (bits .and .u8 (u.toNat:Int) 15))).run Tryz.prog w=.ok (.int .u8 ((digs.getD (u.toNat % 16) 0).toNat:Int)) w:=fun w=>by
    rw [u8_lo]; exact indexDig _ (by omega) w
   have htk:=hide (hexL_take l k u (by omega) hu)
   have hle:=hide (show (hexL (l.take k)).length≤40 by rw [hexL_length,List.length_take]; omega)
   generalize hexL (l.take k)=X at *
   generalize digs.getD (u.toNat / 16) 0=d1 at *
   generalize digs.getD (u.toNat % 16) 0=d2 at *
   go_wp2_with (at_builtin; refine stopAt ?_)
   refine (writeByte w.heap.size (w.heap.size+1) (Lib.byteCells X) _ wr hb (by rw [Lib.byteCells_length]; have:=hle.out; omega) hB.size).mono ?_
   rintro e w1 ⟨rfl,hb1,hB1⟩
   rw [byteCells_snoc] at hb1
   replace hB:=hB.trans hB1
   clear hb hB1
   go_wp2_with (at_builtin; refine stopAt ?_)
   refine (writeByte w.heap.size (w.heap.size+1) (Lib.byteCells (X ++ [d1])) _ w1 (.inr hb1) (by rw [Lib.byteCells_length,List.length_append]; have:=hle.out; simp; omega) hB.size).mono ?_
   rintro e w2 ⟨rfl,hb2,hB2⟩
   rw [byteCells_snoc] at hb2
   replace hB:=hB.trans hB2
   clear hb1 hB2
   go_wp2
   go_roundw
   case rel=>exact ⟨k+1,by omega,rfl,.inr (by rw [htk.out]; exact hb2),hB⟩
   case measure=>simp [intOf]; omega
  ·obtain rfl:k=20:=by omega
   rw [List.take_of_length_le (by omega)] at hb
   go_wp2_with (at_builtin; refine stopAt ?_)
   refine (Tryz.Builder_String_any w.heap.size (w.heap.size+1) (hexL l) wr hb hB.size).mono ?_
   rintro e w1 ⟨rfl,hB1⟩
   replace hB:=hB.trans hB1
   go_wp2
   go_ret
   exact ⟨rfl,hB⟩
theorem blob_U (l:List UInt8) (w:World) (S:Nat→Prop) (ρ:Rho):Vl w S ρ (.blob (l.map U)) (.agg (l.map U).toArray) :=
 Vl.blob' _ fun u hu=>by obtain ⟨x,_,rfl⟩:=List.mem_map.1 hu; rfl
def hexS:Spec:=fun xs hp=>match xs,hp with
 | [.blob cs],[]=>some ⟨.str (hexL (unV cs)),[],cs=(unV cs).map U∧cs.length=20⟩
 | _,_=>none
theorem hex_ok:FnOk Tryz.prog 51 hexS:=by
 refine fnok_of_calls fun xs0 hp r hs hp' => ?_
 unfold hexS at hs
 split at hs
 ·rename_i cs
  injection hs with hs; subst hs
  obtain ⟨p1,p2⟩:=hp'
  refine ⟨rfl,rfl,fun w S ρ args hS ha=>?_⟩
  obtain ⟨v,vs,rfl,hv,hr⟩:=ha.get _ _ rfl
  obtain rfl:=hr.none
  generalize unV cs=l at *
  subst p1
  rw [hv.blob]
  refine (shaHex l (by simpa using p2) w).mono ?_
  rintro e w' ⟨rfl,hb⟩
  exact ⟨_,rfl,hb,fun w' S ρ=>Vl.str' _⟩
 ·cases hs
end Go.Proofs.YtgaehhechonegaaGreatDoor
