/- The document's calls, one by one, as lists: each thread's are what goes through its events gathers. Calls (plain): what they say of events, and events of them. Calls of a machine's events (plain). barrier (plain): what the calls of threads say that enter it: nobody left ahead of the last one. -/
import Derived.Test.YtmhfpjnkjlhbpaaGreatDoorQi32
import Derived.Test.YtmhfpjnkjlhbpaaGreatDoorQi27
import Derived.Test.YtmhfpjnkjlhbpaaGreatDoorQi31
namespace Go.Proofs.YtmhfpjnkjlhbpaaGreatDoor
open Go.ChangeShapes Go.WideShapes Go.ChangeAt Go.RowKit Go.Deep
set_option linter.unusedVariables false
set_option maxRecDepth 100000
set_option linter.unusedSimpArgs false
def ostep (s:Cl×Bool) (x:Nat×EvB):Cl×Bool:=
 if s.2=false then s else if x.2.who≠s.1.who then s
 else if x.2.kind≠7 then (if x.2.kind≠3 then ({s.1 with inner:=s.1.inner++[(x.1:Int)]},true)else s)
 else if x.2.k % 2=0 then (s.1,false)
 else if x.2.k/2=s.1.site then ({s.1 with ended:=(x.1:Int),result:=x.2.value},false)else s
def newC (E:Nat->EvB) (i:Nat):Cl:=⟨(E i).k/2,(E i).who,(i:Int),-1,0,[]⟩
def begBB (E:Nat->EvB) (i:Nat):Bool:=(E i).kind==7&&(E i).k % 2==0
def evFrom (E:Nat->EvB) (i n:Nat):List (Nat×EvB):=(List.range n).map fun k=>(i+k,E (i+k))
theorem evFrom_succ (E:Nat->EvB) (i n:Nat):evFrom E i (n+1)=evFrom E i n++[(i+n,E (i+n))]:=by
 unfold evFrom
 rw [List.range_succ,List.map_append]
 rfl
def oneS (E:Nat->EvB) (len i:Nat):Cl×Bool:=(evFrom E (i+1) (len-(i+1))).foldl ostep (newC E i,true)
theorem oneS_new (E:Nat->EvB) (i:Nat):oneS E (i+1) i=(newC E i,true):=by
 unfold oneS
 rw [Nat.sub_self]
 rfl
theorem oneS_succ (E:Nat->EvB) (len i:Nat) (h:i<len):oneS E (len+1) i=ostep (oneS E len i) (len,E len):=by
 unfold oneS
 rw [show len+1-(i+1)=(len-(i+1))+1 by omega,evFrom_succ,List.foldl_append]
 rw [show i+1+(len-(i+1))=len by omega]
 rfl
def rs (E:Nat->EvB) (t:Int) (len:Nat):List (Cl×Bool):=((List.range len).filter fun i=>begBB E i&&(E i).who==t).map (oneS E len)
def allC (E:Nat->EvB) (len:Nat):List Cl:=((List.range len).filter fun i=>begBB E i&&(decide (0<=(E i).who)&&decide ((E i).who<8))).map fun i=>(oneS E len i).1
theorem ostep_who (s:Cl×Bool) (x:Nat×EvB):(ostep s x).1.who=s.1.who/\(ostep s x).1.began=s.1.began/\(ostep s x).1.site=s.1.site:=by
 unfold ostep
 repeat' split
 all_goals exact ⟨rfl,rfl,rfl⟩
theorem fold_who (l:List (Nat×EvB)): ∀s:Cl×Bool,(l.foldl ostep s).1.who=s.1.who/\(l.foldl ostep s).1.began=s.1.began/\(l.foldl ostep s).1.site=s.1.site:=by
 induction l with
 |nil=>intro s;exact ⟨rfl,rfl,rfl⟩
 |cons x l ih=>
  intro s
  obtain ⟨a,b,c⟩:=ih (ostep s x)
  obtain ⟨a',b',c'⟩:=ostep_who s x
  exact ⟨a.trans a',b.trans b',c.trans c'⟩
theorem oneS_whoB (E:Nat->EvB) (len i:Nat):(oneS E len i).1.who=(E i).who/\(oneS E len i).1.began=i/\(oneS E len i).1.site=(E i).k/2:=fold_who _ _
theorem rs_succ (E:Nat->EvB) (t:Int) (len:Nat):rs E t (len+1)=(rs E t len).map (fun s=>ostep s (len,E len))++(if begBB E len&&(E len).who==t then [(newC E len,true)]else []):=by
 unfold rs
 rw [List.range_succ,List.filter_append,List.map_append,List.map_map]
 congr 1
 ·apply List.map_congr_left
  intro i hi
  have :=List.mem_range.1 (List.mem_filter.1 hi).1
  exact oneS_succ E len i this
 ·by_cases h:(begBB E len&&(E len).who==t)=true
  ·rw [if_pos h,List.filter_cons_of_pos (p:=fun i=>begBB E i&&(E i).who==t) h]
   simp [oneS_new]
  ·rw [if_neg h,List.filter_cons_of_neg (p:=fun i=>begBB E i&&(E i).who==t) h]
   rfl
theorem ostep_off {s:Cl×Bool} (h:s.2=false) (x:Nat×EvB):ostep s x=s:=by
 unfold ostep
 rw [if_pos h]
theorem ostep_other {s:Cl×Bool} {x:Nat×EvB} (h:x.2.who≠s.1.who):ostep s x=s:=by
 unfold ostep
 by_cases h1:s.2=false
 ·rw [if_pos h1]
 ·rw [if_neg h1,if_pos h]
theorem gathered (E:Nat->EvB) (t:Int): ∀len,(callsF t (evsB E t len)).1=(rs E t len).map (·.1)/\
 (callsF t (evsB E t len)).2=((rs E t len).getLast?.map (·.2)).getD false/\(∀s∈(rs E t len).dropLast,s.2=false)/\(∀s∈rs E t len,s.1.who=t)
 |0=>⟨rfl,rfl,(fun s h=>absurd h List.not_mem_nil),(fun s h=>absurd h List.not_mem_nil)⟩
 |len+1=>by
  obtain ⟨h1,h2,h3,h4⟩:=gathered E t len
  rw [rs_succ]
  by_cases hw:(E len).who=t
  ·rw [evs_hitB hw,callsF_snoc]
   generalize callsF t (evsB E t len)=st at h1 h2⊢
   obtain ⟨C,o⟩:=st
   dsimp only at h1 h2
   generalize rs E t len=l at h1 h2 h3 h4⊢
   subst h1
   subst h2
   by_cases hk:(E len).kind=7
   ·by_cases hev:(E len).k % 2=0
    ·have hb:(begBB E len&&(E len).who==t)=true:=by simp [begBB,hk,hev,hw]
     rw [if_pos hb]
     have hmap:(l.map fun s=>ostep s (len,E len)).map (·.1)=l.map (·.1)/\ ∀s∈l.map (fun s=>ostep s (len,E len)),s.2=false/\s.1.who=t:=by
      constructor
      ·rw [List.map_map]
       apply List.map_congr_left
       intro s hs
       show (ostep s (len,E len)).1=s.1
       unfold ostep
       dsimp only
       repeat' split
       all_goals first|rfl|(exfalso;omega)
      ·intro s hs
       obtain ⟨s',hs',rfl⟩:=List.mem_map.1 hs
       refine ⟨?_,by rw [(ostep_who _ _).1];exact h4 _ hs'⟩
       unfold ostep
       rw [h4 _ hs']
       dsimp only
       by_cases h0:s'.2=false
       ·rw [if_pos h0];exact h0
       ·rw [if_neg h0,if_neg (by simp [hw]),if_neg (by simp [hk]),if_pos hev]
     unfold cstep
     dsimp only
     rw [if_neg (by simp [hk]),if_pos hev]
     refine ⟨?_,?_,fun s hs=>?_,fun s hs=>?_⟩
     ·rw [List.map_append,hmap.1]
      simp [newC,hw]
     ·simp
     ·rw [List.dropLast_concat]at hs
      exact (hmap.2 s hs).1
     ·rcases List.mem_append.1 hs with hs|hs
      ·exact (hmap.2 s hs).2
      ·rw [List.mem_singleton.1 hs];exact hw
    ·have hb: ¬(begBB E len&&(E len).who==t)=true:=by simp [begBB,hev]
     rw [if_neg hb,List.append_nil]
     rcases List.eq_nil_or_concat l with rfl|⟨a,s,rfl⟩
     ·unfold cstep
      dsimp only
      rw [if_neg (by simp [hk]),if_neg hev,if_neg (by simp)]
      exact ⟨rfl,rfl,(fun s h=>absurd h List.not_mem_nil),(fun s h=>absurd h List.not_mem_nil)⟩
     ·rw [List.concat_eq_append]at h3 h4⊢
      rw [List.dropLast_concat]at h3
      have ha:a.map (fun s=>ostep s (len,E len))=a:=by
       conv=>rhs;rw [<-List.map_id a]
       exact List.map_congr_left fun x hx=>ostep_off (h3 x hx) _
      have hs4:=h4 s (by simp)
      have hb4:(a++[s]).map (fun s=>ostep s (len,E len))=a++[ostep s (len,E len)]:=by rw [List.map_append,ha];rfl
      rw [hb4]
      simp only [List.map_append,List.map_cons,List.map_nil,List.getLast?_append,List.getLast?_singleton,Option.some_or,Option.map_some,Option.getD_some,List.dropLast_concat]
      unfold cstep
      dsimp only
      rw [if_neg (by simp [hk]),if_neg hev,lastSite_snoc]
      obtain ⟨c,o⟩:=s
      dsimp only at hs4⊢
      cases o
      ·rw [if_neg (by simp),ostep_off rfl]
       exact ⟨rfl,rfl,h3,h4⟩
      ·by_cases hs:c.site=(E len).k/2
       ·rw [if_pos ⟨rfl,hs⟩,modLast_snoc]
        have :ostep (c,true) (len,E len)=({c with ended:=(len:Int),result:=(E len).value},false):=by
         unfold ostep
         dsimp only
         rw [if_neg (by simp),if_neg (by simp [hs4,hw]),if_neg (by simp [hk]),if_neg hev,if_pos hs.symm]
        rw [this]
        refine ⟨rfl,rfl,h3,fun x hx=>?_⟩
        rcases List.mem_append.1 hx with hx|hx
        ·exact h4 x (List.mem_append_left _ hx)
        ·rw [List.mem_singleton.1 hx];exact hs4
       ·rw [if_neg (by simp [hs])]
        have :ostep (c,true) (len,E len)=(c,true):=by
         unfold ostep
         dsimp only
         rw [if_neg (by simp),if_neg (by simp [hs4,hw]),if_neg (by simp [hk]),if_neg hev,if_neg (fun e=>hs e.symm)]
        rw [this]
        exact ⟨rfl,rfl,h3,h4⟩
   ·have hb: ¬(begBB E len&&(E len).who==t)=true:=by simp [begBB,hk]
    rw [if_neg hb,List.append_nil]
    rcases List.eq_nil_or_concat l with rfl|⟨a,s,rfl⟩
    ·unfold cstep
     dsimp only
     rw [if_pos hk,if_neg (by simp)]
     exact ⟨rfl,rfl,(fun s h=>absurd h List.not_mem_nil),(fun s h=>absurd h List.not_mem_nil)⟩
    ·rw [List.concat_eq_append]at h3 h4⊢
     rw [List.dropLast_concat]at h3
     have ha:a.map (fun s=>ostep s (len,E len))=a:=by
      conv=>rhs;rw [<-List.map_id a]
      exact List.map_congr_left fun x hx=>ostep_off (h3 x hx) _
     have hs4:=h4 s (by simp)
     have hb4:(a++[s]).map (fun s=>ostep s (len,E len))=a++[ostep s (len,E len)]:=by rw [List.map_append,ha];rfl
     rw [hb4]
     simp only [List.map_append,List.map_cons,List.map_nil,List.getLast?_append,List.getLast?_singleton,Option.some_or,Option.map_some,Option.getD_some,List.dropLast_concat]
     unfold cstep
     dsimp only
     rw [if_pos hk]
     obtain ⟨c,o⟩:=s
     dsimp only at hs4⊢
     cases o
     ·rw [if_neg (by simp),ostep_off rfl]
      exact ⟨rfl,rfl,h3,h4⟩
     ·by_cases h3k:(E len).kind=3
      ·rw [if_neg (by simp [h3k])]
       have :ostep (c,true) (len,E len)=(c,true):=by
        unfold ostep
        dsimp only
        rw [if_neg (by simp),if_neg (by simp [hs4,hw]),if_pos hk,if_neg (by simp [h3k])]
       rw [this]
       exact ⟨rfl,rfl,h3,h4⟩
      ·rw [if_pos ⟨rfl,h3k⟩,modLast_snoc]
       have :ostep (c,true) (len,E len)=({c with inner:=c.inner++[(len:Int)]},true):=by
        unfold ostep
        dsimp only
        rw [if_neg (by simp),if_neg (by simp [hs4,hw]),if_pos hk,if_pos h3k]
       rw [this]
       refine ⟨rfl,rfl,h3,fun x hx=>?_⟩
       rcases List.mem_append.1 hx with hx|hx
       ·exact h4 x (List.mem_append_left _ hx)
       ·rw [List.mem_singleton.1 hx];exact hs4
  ·rw [evs_missB hw]
   have hb: ¬(begBB E len&&(E len).who==t)=true:=by simp [hw]
   have hl:(rs E t len).map (fun s=>ostep s (len,E len))=rs E t len:=by
    conv=>rhs;rw [<-List.map_id (rs E t len)]
    exact List.map_congr_left fun x hx=>ostep_other (by rw [h4 x hx];exact hw)
   rw [hl,if_neg hb,List.append_nil]
   exact ⟨h1,h2,h3,h4⟩
theorem callsF_all (E:Nat->EvB) (t:Int) (len:Nat) (h0:0<=t) (h8:t<8):(callsF t (evsB E t len)).1=(allC E len).filter (fun c=>c.who==t):=by
 rw [(gathered E t len).1]
 unfold rs allC
 rw [List.filter_map,List.filter_filter,List.map_map]
 congr 1
 apply List.filter_congr
 intro i hi
 show (begBB E i&&(E i).who==t)=((oneS E len i).1.who==t&&(begBB E i&&(decide (0<=(E i).who)&&decide ((E i).who<8))))
 rw [(oneS_whoB E len i).1]
 by_cases h:(E i).who=t
 ·rw [h]
  cases begBB E i<;>simp [h0,h8]
 ·have :((E i).who==t)=false:=by simpa using h
  rw [this]
  cases begBB E i<;>rfl
theorem allC_who (E:Nat->EvB) (len:Nat): ∀c∈allC E len,0<=c.who/\c.who<8:=by
 intro c hc
 obtain ⟨i,hi,rfl⟩:=List.mem_map.1 hc
 have :=(List.mem_filter.1 hi).2
 simp only [Bool.and_eq_true,decide_eq_true_eq]at this
 rw [(oneS_whoB E len i).1]
 exact this.2
theorem allC_sorted (E:Nat->EvB) (len:Nat):(allC E len).Pairwise (fun a b=>a.began<b.began):=by
 unfold allC
 rw [List.pairwise_map]
 have h:((List.range len).filter fun i=>begBB E i&&(decide (0<=(E i).who)&&decide ((E i).who<8))).Pairwise (· < ·):=List.Pairwise.filter _ List.pairwise_lt_range
 exact h.imp fun {a b} hab=>by
  rw [(oneS_whoB E len a).2.1,(oneS_whoB E len b).2.1]
  omega
theorem allC_len (E:Nat->EvB) (len:Nat):(allC E len).length<=len:=by
 unfold allC
 rw [List.length_map]
 have :=List.length_filter_le (fun i=>begBB E i&&(decide (0<=(E i).who)&&decide ((E i).who<8))) (List.range len)
 simpa using this
def EndAt (E:Nat->EvB) (i n:Nat) (c:Cl) (j:Nat):Prop:=i<j/\j<n/\c.ended=(j:Int)/\(E j).kind=7/\(E j).who=(E i).who/\(E j).k % 2≠0/\(E j).k/2=(E i).k/2/\c.result=(E j).value
theorem ended_at (E:Nat->EvB) (i:Nat): ∀d,(oneS E (i+1+d) i).1.ended= -1∨((oneS E (i+1+d) i).2=false/\ ∃j,EndAt E i (i+1+d) (oneS E (i+1+d) i).1 j)
 |0=> .inl (by rw [Nat.add_zero,oneS_new];rfl)
 |d+1=>by
  have ih:=ended_at E i d
  have hw:=oneS_whoB E (i+1+d) i
  rw [<-Nat.add_assoc,oneS_succ E _ i (by omega)]
  generalize oneS E (i+1+d) i=s at ih hw⊢
  have keep: ∀{j},EndAt E i (i+1+d) s.1 j->EndAt E i (i+1+d+1) s.1 j:=fun ⟨h1,h2,h3⟩=>⟨h1,by omega,h3⟩
  by_cases o:s.2=false
  ·have e:ostep s (i+1+d,E (i+1+d))=s:=by unfold ostep;rw [if_pos o]
   rw [e]
   exact ih.imp id (fun ⟨h,j,hj⟩=>⟨h,j,keep hj⟩)
  ·have hn:s.1.ended= -1:=ih.elim id (fun q=>absurd q.1 o)
   unfold ostep
   rw [if_neg o]
   dsimp only
   split
   ·exact .inl hn
   ·rename_i hwho
    split
    ·split
     ·exact .inl hn
     ·exact .inl hn
    ·rename_i hk
     split
     ·exact .inl hn
     ·rename_i hev
      split
      ·rename_i hs
       refine .inr ⟨rfl,i+1+d,by omega,by omega,rfl,by simpa using hk,?_,hev,?_,rfl⟩
       ·have :(E (i+1+d)).who=s.1.who:=by simpa using hwho
        rw [this,hw.1]
       ·rw [hs,hw.2.2]
      ·exact .inl hn
theorem call_at {E:Nat->EvB} {len:Nat} {c:Cl} (h:c∈allC E len): ∃i,i<len/\c=(oneS E len i).1/\(E i).kind=7/\(E i).k % 2=0/\c.who=(E i).who/\c.began=(i:Int)/\c.site=(E i).k/2/\(0<=(E i).who/\(E i).who<8)/\(c.ended= -1∨ ∃j,EndAt E i len c j):=by
 obtain ⟨i,hi,rfl⟩:=List.mem_map.1 h
 obtain ⟨h1,h2⟩:=List.mem_filter.1 hi
 have hlt:=List.mem_range.1 h1
 simp only [begBB,Bool.and_eq_true,beq_iff_eq,decide_eq_true_eq]at h2
 have hw:=oneS_whoB E len i
 refine ⟨i,hlt,rfl,h2.1.1,h2.1.2,hw.1,hw.2.1,hw.2.2,h2.2,?_⟩
 have :=ended_at E i (len-(i+1))
 rw [show i+1+(len-(i+1))=len by omega]at this
 exact this.imp id (fun q=>q.2)
theorem ends_first {E:Nat->EvB} {len i j m:Nat} (hij:i<j) (hj:j<len) (hk:(E j).kind=7) (he:(E j).k % 2=0) (hw:(E j).who=(E i).who) (h:EndAt E i len (oneS E len i).1 m):m<j:=by
 rcases Nat.lt_or_ge m j with c|c
 ·exact c
 ·
  have o1: ∀d,(oneS E (j+1+d) i).2=false:=fun d=>by
   induction d with
   |zero=>
    rw [Nat.add_zero,oneS_succ E j i hij]
    have hw1:=oneS_whoB E j i
    unfold ostep
    by_cases o:(oneS E j i).2=false
    ·rw [if_pos o];exact o
    ·rw [if_neg o]
     dsimp only
     rw [if_neg (by rw [hw1.1];simpa using hw),if_neg (by simpa using hk),if_pos he]
   |succ d ih=>
    rw [<-Nat.add_assoc,oneS_succ E _ i (by omega)]
    unfold ostep
    rw [if_pos ih];exact ih
  have same: ∀d,(oneS E (j+1+d) i).1=(oneS E (j+1) i).1:=fun d=>by
   induction d with
   |zero=>rfl
   |succ d ih=>
    rw [<-Nat.add_assoc,oneS_succ E _ i (by omega)]
    unfold ostep
    rw [if_pos (o1 d)];exact ih
  have e:=same (len-(j+1))
  rw [show j+1+(len-(j+1))=len by omega]at e
  have q:=ended_at E i (j-i)
  rw [show i+1+(j-i)=j+1 by omega,<-e]at q
  rcases q with q|⟨_,m',q⟩
  ·have :=h.2.2.1;omega
  ·have h1:=h.2.2.1
   have h2:=q.2.2.1
   have h3:=q.2.1
   have :m=m':=by omega
   subst this
   have hm:m=j:=by omega
   subst hm
   exact absurd he h.2.2.2.2.2.1
def evB (x:Evt):EvB:=⟨x.kind,x.who,x.pc,x.addr,x.value,x.old,x.k % 4294967296,x.ok,Int.emod_nonneg _ (by decide),by have :=Int.emod_lt_of_pos x.k (by decide:(0:Int)<4294967296);omega⟩
def evF (l:List Evt) (i:Nat):EvB:=evB (l.getD i ev0)
theorem evF_sle {W:World} {A:Option Addr} {l:List Evt} (h:EvK l) (hs:SlE W A l.length 8 (fun i=>(l.getD i ev0).cells)):SlE W A l.length 8 (fun i=>(evF l i).cells):=fun hn=>by
 obtain ⟨b,off,e,hlt,hc⟩:=hs hn
 refine ⟨b,off,e,hlt,fun i hi j u hu=>hc i hi j u ?_⟩
 have hm:l.getD i ev0∈l:=getD_mem hi
 have hk:=h _ hm
 have e2:(l.getD i ev0).k % 4294967296=(l.getD i ev0).k:=Int.emod_eq_of_lt hk.1 (by omega)
 have e3:(evF l i).cells=(l.getD i ev0).cells:=by
  unfold evF evB EvB.cells Evt.cells
  dsimp only
  rw [e2]
 have hu':(evF l i).cells[j]?=some u:=hu
 rw [e3]at hu'
 exact hu'
theorem evF_at {l:List Evt} (h:EvK l) {i:Nat} (hi:i<l.length): ∃x,l[i]?=some x/\(evF l i).kind=x.kind/\(evF l i).who=x.who/\(evF l i).value=x.value/\(evF l i).k=x.k:=by
 refine ⟨l[i],List.getElem?_eq_getElem hi,?_⟩
 have hk:=h _ (List.getElem_mem hi)
 have e:l.getD i ev0=l[i]:=by rw [List.getD_eq_getElem?_getD,List.getElem?_eq_getElem hi];rfl
 unfold evF
 rw [e]
 exact ⟨rfl,rfl,rfl,Int.emod_eq_of_lt hk.1 (by omega)⟩
def cF (f:Nat->Bool) (n:Nat):Nat:=((List.range n).filter f).length
theorem cF_succ (f:Nat->Bool) (n:Nat):cF f (n+1)=cF f n+(if f n=true then 1 else 0):=by
 unfold cF
 rw [List.range_succ,List.filter_append,List.length_append]
 by_cases h:f n=true
 ·rw [if_pos h,List.filter_cons_of_pos h];rfl
 ·rw [if_neg h,List.filter_cons_of_neg h];rfl
theorem cF_congr {f g:Nat->Bool} {n:Nat} (h: ∀e,e<n->f e=g e):cF f n=cF g n:=by
 induction n with
 |zero=>rfl
 |succ n ih=>rw [cF_succ,cF_succ,ih (fun e he=>h e (by omega)),h n (by omega)]
theorem cF_mono (f:Nat->Bool) {n m:Nat} (h:n<=m):cF f n<=cF f m:=by
 induction m with
 |zero=>rw [Nat.le_zero.1 h];exact Nat.le_refl _
 |succ m ih=>
  rcases Nat.lt_or_ge n (m+1)with c|c
  ·rw [cF_succ];have :=ih (by omega);omega
  ·rw [Nat.le_antisymm h c];exact Nat.le_refl _
theorem cF_nth (f:Nat->Bool) (ph T:Nat): ∀n,cF (fun e=>f e&&((cF f e==ph)&&decide (e<T))) n=if ph<cF f (min n T)then 1 else 0
 |0=>by rw [Nat.zero_min];rfl
 |n+1=>by
  rw [cF_succ,cF_nth f ph T n]
  rcases Nat.lt_or_ge n T with c|c
  ·rw [Nat.min_eq_left (by omega),Nat.min_eq_left (by omega),cF_succ]
   by_cases h:f n=true
   ·by_cases e:cF f n=ph
    ·rw [if_pos (show (f n&&((cF f n==ph)&&decide (n<T)))=true by simp [h,e,c]),if_neg (by omega),if_pos h,if_pos (by omega)]
    ·rw [if_neg (show¬(f n&&((cF f n==ph)&&decide (n<T)))=true by simp [e]),if_pos h]
     by_cases q:ph<cF f n
     ·rw [if_pos q,if_pos (by omega)]
     ·rw [if_neg q,if_neg (by omega)]
   ·rw [if_neg (show¬(f n&&((cF f n==ph)&&decide (n<T)))=true by simp [h]),if_neg h]
    rfl
  ·rw [show min n T=T by omega,show min (n+1) T=T by omega,if_neg (show¬(f n&&((cF f n==ph)&&decide (n<T)))=true by simp;omega)]
   rfl
theorem sumT_add (W:Nat) (f g:Nat->Nat):(sumT W fun u=>f u+g u)=sumT W f+sumT W g:=by
 induction W with
 |zero=>rfl
 |succ W ih=>rw [sumT_succ,sumT_succ,sumT_succ,ih];omega
theorem sumT_const (W k:Nat):(sumT W fun _=>k)=W*k:=by
 induction W with
 |zero=>simp [sumT]
 |succ W ih=>rw [sumT_succ,ih,Nat.succ_mul]
theorem cF_sum {N:Nat} {p:Nat->Bool} {b:Nat->Nat->Bool} {Q:Nat->Bool}: ∀{n:Nat},(∀e,e<n->(if p e=true then 1 else 0)=sumT N fun u=>if b u e=true then 1 else 0)->cF (fun e=>p e&&Q e) n=sumT N fun u=>cF (fun e=>b u e&&Q e) n
 |0,_=>by
  have :(sumT N fun u=>cF (fun e=>b u e&&Q e) 0)=sumT N fun _=>0:=rfl
  rw [this,sumT_const,Nat.mul_zero];rfl
 |n+1,h=>by
  have e:(sumT N fun u=>cF (fun e=>b u e&&Q e) (n+1))=sumT N fun u=>cF (fun e=>b u e&&Q e) n+(if (b u n&&Q n)=true then 1 else 0):=sumT_congr (fun u _=>cF_succ _ _)
  rw [e,sumT_add,cF_succ,<-cF_sum (fun e he=>h e (by omega))]
  congr 1
  cases hQ:Q n with
  |true=>
   simp only [Bool.and_true]
   exact h n (by omega)
  |false=>
   simp only [Bool.and_false]
   rw [sumT_const]
   simp
theorem cntE_take (f:Evt->Bool) (l:List Evt): ∀n,n<=l.length->cntE f (l.take n)=cF (fun j=>f (l.getD j ev0)) n
 |0,_=>by rw [List.take_zero];rfl
 |n+1,h=>by
  have e:l.take (n+1)=l.take n++[l.getD n ev0]:=by
   rw [List.take_succ_eq_append_getElem (by omega),List.getD_eq_getElem?_getD,List.getElem?_eq_getElem (by omega)];rfl
  rw [e,cntE_snoc,cntE_take f l n (by omega),cF_succ]
theorem take_filter (p:Nat->Bool): ∀(n k:Nat),k<((List.range n).filter p).length-> ∃e,e<n/\p e=true/\((List.range n).filter p)[k]?=some e/\((List.range n).filter p).take k=(List.range e).filter p
 |0,k,h=>absurd h (by simp)
 |n+1,k,h=>by
  rw [List.range_succ,List.filter_append]at h⊢
  rcases Nat.lt_or_ge k ((List.range n).filter p).length with c|c
  ·obtain ⟨e,h1,h2,h3,h4⟩:=take_filter p n k c
   exact ⟨e,by omega,h2,by rw [List.getElem?_append_left c];exact h3,by rw [List.take_append_of_le_length (by omega)];exact h4⟩
  ·by_cases hp:p n=true
   ·rw [List.filter_cons_of_pos hp,List.length_append]at h
    have hk:k=((List.range n).filter p).length:=by
     have :(n::List.filter p []).length=1:=rfl
     omega
    subst hk
    rw [List.filter_cons_of_pos hp]
    exact ⟨n,by omega,hp,by rw [List.getElem?_append_right (Nat.le_refl _),Nat.sub_self];rfl,List.take_left' rfl⟩
   ·rw [List.filter_cons_of_neg hp,List.length_append]at h
    have :([]:List Nat).length=0:=rfl
    simp at h
    omega
theorem filter_idx {α:Type} (d:α) (Q:α->Bool): ∀(n:Nat) (L:List α),L.length=n->((List.range L.length).filter fun k=>Q (L.getD k d)).length=(L.filter Q).length
 |0,L,h=>by
  obtain rfl:=List.eq_nil_of_length_eq_zero h
  rfl
 |n+1,L',h=>by
  obtain ⟨L,x,rfl⟩: ∃L x,L'=L++[x]:=⟨L'.dropLast,L'.getLast (by intro e;rw [e]at h;cases h),(List.dropLast_concat_getLast _).symm⟩
  have ih:=filter_idx d Q n L (by rw [List.length_append,List.length_singleton]at h;omega)
  rw [List.length_append,List.length_singleton,List.range_succ,List.filter_append,List.filter_append,List.length_append,List.length_append]
  have e1:(List.range L.length).filter (fun k=>Q ((L++[x]).getD k d))=(List.range L.length).filter fun k=>Q (L.getD k d):=List.filter_congr (fun k hk=>by
   have :=List.mem_range.1 hk
   rw [List.getD_eq_getElem?_getD,List.getD_eq_getElem?_getD,List.getElem?_append_left this])
  have e2:(L++[x]).getD L.length d=x:=by simp
  rw [e1,ih]
  congr 1
  by_cases hq:Q x=true
  ·rw [List.filter_cons_of_pos (by rw [e2];exact hq),List.filter_cons_of_pos hq];rfl
  ·rw [List.filter_cons_of_neg (by rw [e2];exact hq),List.filter_cons_of_neg hq];rfl
def phs (C:List Cl) (i:Nat):Nat:=((C.take i).filter fun c=>c.who==(C.getD i default).who).length
def hitN (C:List Cl) (i n:Nat):Nat:=cF (fun k=>phs C k==phs C i&&decide ((C.getD k default).began<(C.getD i default).ended)) n
theorem cF_and (p Q:Nat->Bool) (n:Nat):(((List.range n).filter p).filter Q).length=cF (fun e=>p e&&Q e) n:=by
 unfold cF
 rw [List.filter_filter]
 congr 1
 exact List.filter_congr (fun e _=>Bool.and_comm _ _)
theorem meets_calls {N:Nat} {l:List Evt} (hk:EvK l) (hok:okBr N l) (hN:N<=8) {i:Nat} (hi:i<(allC (evF l) l.length).length) (he:0<=((allC (evF l) l.length).getD i default).ended):
 ((allC (evF l) l.length).getD i default).result=0/\hitN (allC (evF l) l.length) i (allC (evF l) l.length).length=N:=by
 obtain ⟨p,hp⟩: ∃p:Nat->Bool,(fun i=>begBB (evF l) i&&(decide (0<=(evF l i).who)&&decide ((evF l i).who<8)))=p:=⟨_,rfl⟩
 have hC:allC (evF l) l.length=((List.range l.length).filter p).map fun i=>(oneS (evF l) l.length i).1:=by rw [<-hp];rfl
 have hlen:(allC (evF l) l.length).length=((List.range l.length).filter p).length:=by rw [hC,List.length_map]
 have at_: ∀e,e<l.length-> ∃x,l[e]?=some x/\l.getD e ev0=x/\(evF l e).kind=x.kind/\(evF l e).who=x.who/\(evF l e).value=x.value/\(evF l e).k=x.k:=fun e h=>by
  obtain ⟨x,h1,h2⟩:=evF_at hk h
  exact ⟨x,h1,by rw [List.getD_eq_getElem?_getD,h1];rfl,h2⟩
 have pIs: ∀e,e<l.length->(p e=true↔(l.getD e ev0).kind=7/\(l.getD e ev0).k=18):=fun e h=>by
  obtain ⟨x,h1,h2,h3,h4,h5,h6⟩:=at_ e h
  rw [h2,<-hp]
  simp only [begBB,Bool.and_eq_true,beq_iff_eq,decide_eq_true_eq,h3,h4,h6]
  constructor
  ·rintro ⟨⟨q1,q2⟩,q3⟩
   have :=(hok e x h1 q1).2.2.1
   exact ⟨q1,by omega⟩
  ·rintro ⟨q1,q2⟩
   have :=hok e x h1 q1
   exact ⟨⟨q1,by rw [q2];rfl⟩,by omega,by omega⟩
 obtain ⟨b,hb⟩: ∃b:Nat->Nat->Bool,(fun u e=>isMW 18 u (l.getD e ev0))=b:=⟨_,rfl⟩
 have bIs: ∀u e,b u e=true↔((l.getD e ev0).kind=7/\(l.getD e ev0).k=18)/\(l.getD e ev0).who=(u:Int):=fun u e=>by
  rw [<-hb]
  simp only [isMW,Bool.and_eq_true,beq_iff_eq]
 have cnt: ∀u e,e<=l.length->cntE (isMW 18 u) (l.take e)=cF (b u) e:=fun u e h=>by rw [cntE_take _ _ _ h,<-hb]
 have kth: ∀k,k<(allC (evF l) l.length).length-> ∃e,e<l.length/\p e=true/\((List.range l.length).filter p)[k]?=some e/\(allC (evF l) l.length).getD k default=(oneS (evF l) l.length e).1/\phs (allC (evF l) l.length) k=cF (b (l.getD e ev0).who.toNat) e:=fun k hk'=>by
  obtain ⟨e,h1,h2,h3,h4⟩:=take_filter p l.length k (by rw [<-hlen];exact hk')
  have hg:(allC (evF l) l.length).getD k default=(oneS (evF l) l.length e).1:=by
   rw [hC,List.getD_eq_getElem?_getD,List.getElem?_map,h3];rfl
  refine ⟨e,h1,h2,h3,hg,?_⟩
  unfold phs
  rw [hg,(oneS_whoB _ _ _).1,hC,<-List.map_take,h4,List.filter_map,List.length_map,cF_and]
  have hx:=(pIs e h1).1 h2
  obtain ⟨x,x1,x2,x3,x4,x5,x6⟩:=at_ e h1
  have hw:=(hok e x x1 (by rw [<-x2];exact hx.1)).1
  refine cF_congr (fun j hj=>Bool.eq_iff_iff.2 ?_)
  rw [bIs,Bool.and_eq_true,pIs j (by omega)]
  simp only [Function.comp,beq_iff_eq,(oneS_whoB _ _ _).1]
  obtain ⟨y,y1,y2,y3,y4,y5,y6⟩:=at_ j (by omega)
  rw [x4,y4,x2,y2]
  constructor
  ·rintro ⟨q1,q2⟩;exact ⟨q1,by omega⟩
  ·rintro ⟨q1,q2⟩;exact ⟨q1,by omega⟩
 obtain ⟨e,h1,h2,h3,h4,h5⟩:=kth i hi
 obtain ⟨a,ha,ea,ka,va,wa,ba,sa,_,qa⟩:=call_at (getD_mem (d:=default) hi)
 have hae:a=e:=by
  rw [h4]at ba
  have :=(oneS_whoB (evF l) l.length e).2.1
  omega
 subst hae
 rcases qa with q|⟨m,qa⟩
 ·omega
 rw [h4]at qa
 have hend:((allC (evF l) l.length).getD i default).ended=(m:Int):=by rw [h4];exact qa.2.2.1
 have hresult:((allC (evF l) l.length).getD i default).result=(evF l m).value:=by rw [h4];exact qa.2.2.2.2.2.2.2
 have hfirst: ∀j,a<j->j<l.length->(evF l j).kind=7->(evF l j).k % 2=0->(evF l j).who=(evF l a).who->m<j:=fun j q1 q2 q3 q4 q5=>ends_first q1 q2 q3 q4 q5 qa
 obtain ⟨m1,m2,_,m4,m5,m6,m7,_⟩:=qa
 obtain ⟨y,y1,y2,y3,y4,y5,y6⟩:=at_ m m2
 obtain ⟨x,x1,x2,x3,x4,x5,x6⟩:=at_ a h1
 have hx:=(pIs a h1).1 h2
 have hy7:y.kind=7:=by rw [<-y3];exact m4
 have hyk:=hok m y y1 hy7
 have hy19:y.k=19:=by
  rcases hyk.2.2.1 with q|q
  ·rw [y6,q]at m6;exact absurd rfl m6
  ·exact q
 obtain ⟨r0,rall⟩:=hyk.2.2.2 hy19
 have hwy:y.who=x.who:=by rw [<-y4,m5,x4]
 refine ⟨by rw [hresult,y5];exact r0,?_⟩
 obtain ⟨ph,hph⟩: ∃ph,phs (allC (evF l) l.length) i=ph:=⟨_,rfl⟩
 have hwx:0<=x.who/\x.who<(N:Int):=by rw [<-hwy];exact ⟨hyk.1,hyk.2.1⟩
 have full: ∀u,u<N->ph<cF (b u) m:=fun u hu=>by
  have h:=rall u hu
  rw [hwy,cnt _ _ (by omega),cnt _ _ (by omega)]at h
  have h6:cF (b x.who.toNat) (a+1)<=cF (b x.who.toNat) m:=cF_mono _ (by omega)
  rw [cF_succ,if_pos ((bIs _ _).2 ⟨hx,by rw [x2];omega⟩)]at h6
  rw [h5,x2]at hph
  omega
 unfold hitN
 have e1:cF (fun k=>phs (allC (evF l) l.length) k==phs (allC (evF l) l.length) i&&decide (((allC (evF l) l.length).getD k default).began<((allC (evF l) l.length).getD i default).ended)) (allC (evF l) l.length).length
  =cF (fun k=>(fun e=>(cF (b (l.getD e ev0).who.toNat) e==ph)&&decide (e<m)) (((List.range l.length).filter p).getD k 0)) ((List.range l.length).filter p).length:=by
  rw [hlen]
  refine cF_congr (fun k hk'=>?_)
  obtain ⟨e',k1,k2,k3,k4,k5⟩:=kth k (by rw [hlen];exact hk')
  have k6:((List.range l.length).filter p).getD k 0=e':=by rw [List.getD_eq_getElem?_getD,k3];rfl
  dsimp only
  rw [k5,hph,k4,hend,(oneS_whoB _ _ _).2.1,k6]
  congr 1
  refine Bool.eq_iff_iff.2 ?_
  rw [decide_eq_true_eq,decide_eq_true_eq]
  show ((e':Int)<(m:Int))↔e'<m
  omega
 rw [e1]
 have e2:=filter_idx 0 (fun e=>(cF (b (l.getD e ev0).who.toNat) e==ph)&&decide (e<m)) _ ((List.range l.length).filter p) rfl
 refine (show _=_ from e2).trans ?_
 rw [cF_and,cF_sum (N:=N) (b:=b) (fun e he=>?_)]
 ·have e3:(sumT N fun u=>cF (fun e=>b u e&&((cF (b (l.getD e ev0).who.toNat) e==ph)&&decide (e<m))) l.length)=sumT N fun _=>1:=by
   refine sumT_congr (fun u hu=>?_)
   have e4:cF (fun e=>b u e&&((cF (b (l.getD e ev0).who.toNat) e==ph)&&decide (e<m))) l.length=cF (fun e=>b u e&&((cF (b u) e==ph)&&decide (e<m))) l.length:=by
    refine cF_congr (fun e he=>?_)
    cases hbu:b u e with
    |false=>rfl
    |true=>
     have :=((bIs u e).1 hbu).2
     rw [this,Int.toNat_natCast]
   rw [e4,cF_nth,Nat.min_eq_right (by omega),if_pos (full u hu)]
  rw [e3,sumT_const,Nat.mul_one]
 ·by_cases hpe:p e=true
  ·rw [if_pos hpe]
   have hq:=(pIs e he).1 hpe
   obtain ⟨z,z1,z2,_⟩:=at_ e he
   rw [z2]at hq
   have hz:=hok e z z1 hq.1
   have e5:(sumT N fun u=>if b u e=true then 1 else 0)+(if false=true then 1 else 0)=sumT N (fun _=>0)+1:=by
    have :=sumT_upd (W:=N) (t:=z.who.toNat) (f:=fun _=>0) (g:=fun u=>if b u e=true then 1 else 0) (by omega) (fun u hu hne=>if_neg (fun q=>by
     have :=((bIs u e).1 q).2
     rw [z2]at this
     omega))
    have e6:(if b z.who.toNat e=true then 1 else 0)=1:=if_pos ((bIs _ _).2 ⟨by rw [z2];exact hq,by rw [z2];omega⟩)
    rw [e6]at this
    rw [if_neg (by decide)]
    exact this
   rw [sumT_const,Nat.mul_zero,if_neg (by decide)]at e5
   omega
  ·rw [if_neg hpe]
   have e5:(sumT N fun u=>if b u e=true then 1 else 0)=sumT N fun _=>0:=sumT_congr (fun u _=>if_neg (fun q=>hpe ((pIs e he).2 ((bIs u e).1 q).1)))
   rw [e5,sumT_const,Nat.mul_zero]
end Go.Proofs.YtmhfpjnkjlhbpaaGreatDoor
