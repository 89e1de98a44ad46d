/- Segments' names, and the records of bytes: program and document alike (plain). and what follows it, up to: What every act of an engine keeps (plain). -/
import Derived.Test.YtgeafeohfiejcaaGreatDoorG6
namespace Go.Ab
set_option linter.unusedVariables false
set_option linter.unusedSimpArgs false
def mayM (seg:Int):Bool:=decide (1≤seg)&&decide (seg≤1000000)
def aC (seg:Int):Str:=if mayM seg then 119::figS seg.toNat else []
theorem mayM_iff {seg:Int}:mayM seg=true↔1≤seg∧seg≤1000000:=by simp [mayM]
theorem may_eq (seg:Int):wal_may seg=some (mayM seg):=by
 unfold wal_may mayM
 by_cases h:1≤seg
 ·rw [if_pos (by simpa using h)];simp [h]
 ·rw [if_neg (by simpa using h)];simp [h]
theorem trim_num (n:Nat) (h:n≤18446744073709551615):strings_TrimSuffix (numS n) [59]=some (figS n):=by
 have hl:=numS_len h
 have he:(numS n).length=(figS n).length+1:=by rw [numS_fig];simp
 unfold strings_TrimSuffix dg dn
 have hw:IntKind.i64.wrap (((numS n).length:Int) - (([59]:Str).length:Int))=((figS n).length:Int):=by
  rw [show (([59]:Str).length:Int)=1 from rfl,IntWalk.i64_in _ ⟨by omega,by omega⟩];omega
 have e2:(numS n).drop (figS n).length=[59]:=by rw [numS_fig];simp
 have e3:(numS n).take (figS n).length=figS n:=by rw [numS_fig];simp
 rw [if_pos (by rw [show (([59]:Str).length:Int)=1 from rfl];simp;omega),hw,ah (by omega),cut_tail (by omega) (by omega),Int.toNat_natCast,e2]
 simp only [Option.bind_some]
 rw [if_pos (by simp),ah (by omega),cut_head,Int.toNat_natCast,e3]
 rfl
theorem name_eq {seg:Int} (h: -9223372036854775808≤seg∧seg≤9223372036854775807):wal_Name seg=some (aC seg):=by
 unfold wal_Name aC
 rw [may_eq]
 simp only [Option.bind_some]
 cases hm:mayM seg with
 |false=>rfl
 |true=>
  rw [mayM_iff] at hm
  have e:seg=(seg.toNat:Int):=by omega
  have hl:=figS_len (n:=seg.toNat) (by have:=m64;omega)
  rw [if_neg (by simp),if_pos rfl,u64_in (by omega) (by omega)]
  conv=>lhs;rw [e]
  rw [num_eq (by omega)]
  simp only [Option.bind_some]
  rw [trim_num _ (by omega)]
  simp only [Option.bind_some]
  rw [ah (by simp;omega)]
  rfl
theorem figS_inj {a b:Nat} (h:figS a=figS b):a=b:=by
 rw [←valF_figS a,←valF_figS b,h]
theorem nameM_inj {a b:Int} (ha:mayM a=true) (hb:mayM b=true) (h:aC a=aC b):a=b:=by
 unfold aC at h
 rw [if_pos ha,if_pos hb] at h
 injection h with _ h
 have:=figS_inj h
 rw [mayM_iff] at ha hb
 omega
def newN:Str:=[119,46,110,101,119]
theorem nameM_new (seg:Int):aC seg≠newN:=by
 intro h
 unfold aC at h
 cases hm:mayM seg with
 |false=>rw [hm] at h;simp [newN] at h
 |true=>
  rw [hm,if_pos rfl] at h
  injection h with _ h
  have:isFig 46=true:=figS_figs seg.toNat 46 (by rw [h];simp)
  exact absurd this (by decide)
def aw:List Str→Str
 |[]=>[]
 |t::r=>ck t++aw r
theorem sealAll_append (l r:List Str):aw (l++r)=aw l++aw r:=by
 induction l with
 |nil=>rfl
 |cons t l ih=>simp only [List.cons_append,aw,ih,List.append_assoc]
theorem sealAll_len (l:List Str):l.length≤(aw l).length:=by
 induction l with
 |nil=>exact Nat.le_refl _
 |cons t l ih=>have:=seal_pos t;simp only [aw,List.length_cons,List.length_append];omega
inductive Scanned:Str→List Str→Str→Prop
 |stop {s} (h:(aN s 2048).2.2≠0):Scanned s [] s
 |next {s l r} (h:(aN s 2048).2.2=0) (k:Scanned (aN s 2048).2.1 l r):Scanned s ((aN s 2048).1::l) r
theorem Scanned.eq {s:Str} {l:List Str} {r:Str} (h:Scanned s l r):s=aw l++r∧(∀t∈l,t.length≤2048)∧(aN r 2048).2.2≠0:=by
 induction h with
 |stop h=>exact ⟨rfl,fun t ht=>by (cases ht),h⟩
 | @next s l r h k ih=>
   obtain ⟨e1,e2,_⟩:=open_inv (most:=2048) h
   refine ⟨?_,fun t ht=> ?_,ih.2.2⟩
   ·simp only [aw];rw [List.append_assoc,←ih.1];exact e1
   ·rcases List.mem_cons.1 ht with rfl|ht
    ·omega
    ·exact ih.2.1 t ht
theorem scanned_of (l:List Str): ∀(s r:Str),s=aw l++r→(∀t∈l,t.length≤2048)→(aN r 2048).2.2≠0→Scanned s l r:=by
 induction l with
 |nil=>intro s r h _ h2;simp only [aw,List.nil_append] at h;subst h;exact .stop h2
 |cons t l ih=>
  intro s r h h1 h2
  have ht:=h1 t (List.mem_cons_self ..)
  have hm:=m64
  simp only [aw,List.append_assoc] at h
  have e:=open_seal (t:=t) (most:=2048) (by omega) (by omega) (aw l++r)
  rw [←h] at e
  have k:=ih (aN s 2048).2.1 r (by rw [e]) (fun x hx=>h1 x (List.mem_cons_of_mem _ hx)) h2
  have:=Scanned.next (s:=s) (by rw [e]) k
  rw [e] at this
  exact this
theorem open_nil:(aN [] 2048).2.2≠0:=by decide
theorem scanned_ex (n:Nat): ∀(s:Str),s.length≤n→ ∃l r,Scanned s l r:=by
 induction n with
 |zero=>
  intro s hs
  have:s=[]:=List.length_eq_zero_iff.1 (by omega)
  subst this
  exact ⟨[],[],.stop open_nil⟩
 |succ n ih=>
  intro s hs
  by_cases h:(aN s 2048).2.2=0
  ·obtain ⟨e1,_,_⟩:=open_inv (most:=2048) h
   have hp:=seal_pos (aN s 2048).1
   have:=congrArg List.length e1
   rw [List.length_append] at this
   obtain ⟨l,r,k⟩:=ih (aN s 2048).2.1 (by omega)
   exact ⟨_,r,.next h k⟩
  ·exact ⟨[],s,.stop h⟩
def scanF:Nat→Str→List Str
 |0,_=>[]
 |n+1,s=>if (aN s 2048).2.2=0 then (aN s 2048).1::scanF n (aN s 2048).2.1 else []
def scanL (s:Str):List Str:=scanF s.length s
def scanP (s:Str):Nat:=(aw (scanL s)).length
theorem scanF_eq {s:Str} {l:List Str} {r:Str} (h:Scanned s l r): ∀(n:Nat),s.length≤n→scanF n s=l:=by
 induction h with
 | @stop s h=>
   intro n hn
   cases n with
   |zero=>rfl
   |succ n=>unfold scanF;rw [if_neg h]
 | @next s l r h k ih=>
   intro n hn
   obtain ⟨e1,_,_⟩:=open_inv (most:=2048) h
   have hp:=seal_pos (aN s 2048).1
   have:=congrArg List.length e1
   rw [List.length_append] at this
   cases n with
   |zero=>omega
   |succ n=>unfold scanF;rw [if_pos h,ih n (by omega)]
theorem scanned (s:Str): ∃r,Scanned s (scanL s) r∧s=aw (scanL s)++r:=by
 obtain ⟨l,r,h⟩:=scanned_ex s.length s (Nat.le_refl _)
 have e:=scanF_eq h s.length (Nat.le_refl _)
 unfold scanL
 rw [e]
 exact ⟨r,h,h.eq.1⟩
theorem scanL_of {s:Str} {l:List Str} {r:Str} (h:Scanned s l r):scanL s=l:=scanF_eq h s.length (Nat.le_refl _)
theorem scanP_le (s:Str):scanP s≤s.length:=by
 obtain ⟨r,_,h⟩:=scanned s
 have:=congrArg List.length h
 rw [List.length_append] at this
 unfold scanP;omega
theorem scanL_len (s:Str):(scanL s).length≤s.length:=Nat.le_trans (sealAll_len _) (scanP_le s)
theorem scan_loop {s:Str} (hl:s.length≤1099511627776): ∀ {q:Str} {l:List Str} {r:Str},Scanned q l r→ ∀(acc:List Str) (g:Int),s=aw acc++q→((acc=[]∧g=0)∨g=(aw acc).length)→
 loop (fun (s1:List Str×Int×Str)=>wal_Scan_l1 s s1.1 s1.2.1 s1.2.2) (acc,g,q)=some (acc++l,((aw (acc++l)).length:Int)):=by
 intro q l r h
 induction h with
 | @stop q h=>
   intro acc g hs hg
   have hql:q.length≤s.length:=by rw [hs];simp
   refine aF ?_
   simp only
   unfold wal_Scan_l1
   rw [open_eq (by omega) (by omega)]
   simp only [Option.bind_some]
   rw [if_pos (by simp [h]),List.append_nil]
   rcases hg with ⟨rfl,rfl⟩|rfl
   ·rfl
   ·rfl
 | @next q l r h k ih=>
   intro acc g hs hg
   have hql:q.length≤s.length:=by rw [hs];simp
   obtain ⟨e1,_,_⟩:=open_inv (most:=2048) h
   have hs2:s=aw (acc++[(aN q 2048).1])++(aN q 2048).2.1:=by
    rw [sealAll_append,List.append_assoc]
    simp only [aw,List.append_nil]
    rw [←e1];exact hs
   have hlen:=sealAll_len (acc++[(aN q 2048).1])
   have hsl:=congrArg List.length hs2
   rw [List.length_append] at hsl
   simp only [List.length_append,List.length_cons,List.length_nil] at hlen
   rw [bz (s':=(acc++[(aN q 2048).1],((aw (acc++[(aN q 2048).1])).length:Int),(aN q 2048).2.1))]
   ·rw [ih _ _ hs2 (.inr rfl),List.append_assoc];rfl
   ·simp only
    unfold wal_Scan_l1
    rw [open_eq (by omega) (by omega)]
    simp only [Option.bind_some]
    rw [if_neg (by simp [h]),ah (by omega),IntWalk.i64_in _ ⟨by omega,by omega⟩]
    congr 3
    congr 1
    omega
theorem scan_eq {s:Str} (hl:s.length≤1099511627776):wal_Scan s=some (scanL s,(scanP s:Int)):=by
 obtain ⟨r,h,_⟩:=scanned s
 unfold wal_Scan
 rw [scan_loop hl h [] 0 rfl (.inl ⟨rfl,rfl⟩)]
 rfl
end Go.Ab
namespace Go.Ab
set_option linter.unusedVariables false
set_option linter.unusedSimpArgs false
structure DB (d:Disk):Prop where
 ok:DOk d
 small: ∀f∈d.Files,cG f≤1048576
theorem db_at {d:Disk} (h:DB d) (name:Str):cG (aj d.Files name)≤1048576:=by
 cases hh:has d.Files name with
 |true=>exact h.small _ (fileAt_mem hh)
 |false=>rw [dh hh];simp [noFile,cG]
theorem db_read {d:Disk} (h:DB d) (n:Str):(readM d n).1.length≤1048576:=by
 have:=db_at h n
 unfold cG at this
 unfold readM
 split
 ·simp only [List.length_append];exact this
 ·simp
theorem append_db {d:Disk} (h:DB d) (name s:Str) (hs:s.length≤1099511627776):DB (av d name s).1:=by
 refine ⟨append_ok2 h.ok name s hs,?_⟩
 unfold av
 split
 ·exact h.small
 split
 ·exact h.small
 split
 ·exact h.small
 split
 ·exact h.small
 rename_i c4
 have t1:=torn_le d.Fuse s
 intro f hm
 rcases setF_mem hm with hm|rfl
 ·unfold withF at hm
  split at hm
  ·exact h.small f hm
  ·rcases List.mem_append.1 hm with hm|hm
   ·exact h.small f hm
   ·simp at hm;subst hm;simp [cG]
 ·unfold cG at*
  simp only [List.length_append]
  omega
theorem sync_db {d:Disk} (h:DB d) (name:Str):DB (bn d name).1:=by
 refine ⟨sync_ok h.ok name,?_⟩
 unfold bn
 split
 ·exact h.small
 split
 ·exact h.small
 ·rename_i h1 h2
  have hh:has d.Files name=true:=by simpa using h2
  intro f hm
  rcases setF_mem hm with hm|rfl
  ·exact h.small f hm
  ·have:=db_at h name
   unfold cG at*
   simp only [List.length_append,List.length_nil];omega
theorem delete_db {d:Disk} (h:DB d) (name:Str):DB (aQ d name).1:=by
 refine ⟨delete_ok h.ok name,?_⟩
 unfold aQ
 split
 ·exact h.small
 split
 ·exact h.small
 split
 ·rw [bj];exact h.small
 ·intro f hm
  simp only [lessM,bj] at hm
  exact h.small f (del_mem hm)
theorem lost_small {d:Disk} (h: ∀f∈d.Files,cG f≤1048576) (name:Str): ∀f∈(lostM d name).Files,cG f≤1048576:=by
 unfold lostM
 split
 ·intro f hm;exact h f (del_mem hm)
 ·exact h
theorem rename_db {d:Disk} (h:DB d) (a b:Str):DB (bq d a b).1:=by
 refine ⟨rename_ok h.ok a b,?_⟩
 unfold bq
 split
 ·exact h.small
 split
 ·exact h.small
 split
 ·exact h.small
 split
 ·exact h.small
 split
 ·rw [bj];exact h.small
 ·intro f hm
  rcases setF_mem hm with hm|rfl
  ·exact lost_small (by rw [bj];exact h.small) b f hm
  ·have:=db_at h a
   unfold cG at*
   simp only;omega
theorem crash_db {d:Disk} (h:DB d) (keeps:List Int):DB (crashM d keeps):=by
 refine ⟨crash_ok h.ok keeps,fun f hm=> ?_⟩
 unfold crashM at hm
 simp only at hm
 obtain ⟨i,hi,rfl⟩:=List.mem_mapIdx.1 hm
 have:=h.small _ (List.getElem_mem hi)
 have hk:=keep_le keeps i d.Files[i]
 unfold cG at*
 simp only [crashF,List.length_append,List.length_take,List.length_nil]
 omega
theorem arm_db {d:Disk} (h:DB d) {fuse:Int} (hf: -9223372036854775808≤fuse∧fuse≤9223372036854775807):DB (armM d fuse):=⟨arm_ok h.ok hf,h.small⟩
theorem clear_db {d:Disk} (h:DB d) (fr:Str):DB (aE d fr).1:=by
 unfold aE;split
 ·exact delete_db h fr
 ·exact h
theorem lay2_db {d:Disk} (h:DB d) (fr s:Str) (hs:s.length≤1099511627776):DB (lay2 d fr s).1:=by
 unfold lay2;split
 ·exact clear_db h fr
 ·exact append_db (clear_db h fr) fr s hs
theorem lay3_db {d:Disk} (h:DB d) (fr s:Str) (hs:s.length≤1099511627776):DB (lay3 d fr s).1:=by
 unfold lay3;split
 ·exact lay2_db h fr s hs
 ·exact sync_db (lay2_db h fr s hs) fr
theorem lay_db {d:Disk} (h:DB d) (name s:Str) (hs:s.length≤1099511627776):DB (layM d name s).1:=by
 unfold layM;split
 ·exact lay3_db h _ s hs
 ·exact rename_db (lay3_db h _ s hs) _ _
def wputM (d:Disk) (seg:Int) (rec:Str):Disk×Int×Int:=
 if mayM seg=false then (d,seg,1) else if 2048<rec.length then (d,seg,4) else
 if 256≤(readM d (aC seg)).1.length then
  if (bn d (aC seg)).2≠0 then ((bn d (aC seg)).1,seg,(bn d (aC seg)).2) else
  if mayM (seg+1)=false then ((bn d (aC seg)).1,seg,5) else
  ((av (bn d (aC seg)).1 (aC (seg+1)) (ck rec)).1,seg+1,(av (bn d (aC seg)).1 (aC (seg+1)) (ck rec)).2)
 else ((av d (aC seg) (ck rec)).1,seg,(av d (aC seg) (ck rec)).2)
def wsyncM (d:Disk) (seg:Int):Disk×Int:=if has d.Files (aC seg)=false then (d,0) else bn d (aC seg)
theorem put_eq {d:Disk} (h:DOk d) {seg:Int} (hs:In64 seg) (rec:Str):wal_Put d seg rec=some (wputM d seg rec):=by
 unfold wal_Put wputM
 rw [may_eq]
 simp only [Option.bind_some]
 cases hm:mayM seg with
 |false=>rfl
 |true=>
  rw [if_neg (by simp),if_neg (show ¬true=false by simp)]
  by_cases hr:2048<rec.length
  ·rw [if_pos (show decide ((rec.length:Int)>2048)=true by simp;omega),if_pos hr]
  ·have hsl:=sealM_len (s:=rec) (by omega)
   rw [if_neg (show ¬decide ((rec.length:Int)>2048)=true by simp;omega),if_neg hr,name_eq hs]
   simp only [Option.bind_some]
   rw [read_eq h]
   simp only [Option.bind_some]
   have hb:=mayM_iff.1 hm
   by_cases h6:256≤(readM d (aC seg)).1.length
   ·rw [if_pos (show decide (((readM d (aC seg)).1.length:Int)≥256)=true by simp;omega),if_pos h6,sync_eq h]
    simp only [Option.bind_some]
    by_cases hz:(bn d (aC seg)).2=0
    ·rw [if_pos (show decide ((bn d (aC seg)).2=0)=true by simp [hz]),IntWalk.i64_in (seg+1) ⟨by omega,by omega⟩,may_eq]
     simp only [Option.bind_some]
     rw [if_neg (show ¬(bn d (aC seg)).2≠0 by simpa using hz)]
     cases hm2:mayM (seg+1) with
     |true=>
      rw [if_pos rfl]
      simp only [Option.bind_some]
      rw [name_eq ⟨by omega,by omega⟩]
      simp only [Option.bind_some]
      rw [seal_eq (by omega)]
      simp only [Option.bind_some]
      rw [append_eq (sync_ok h _) _ _ (by omega)]
      rfl
     |false=>
      rw [if_neg (by simp),if_pos (show decide ((bn d (aC seg)).2=0)=true by simp [hz])]
      rfl
    ·rw [if_neg (show ¬decide ((bn d (aC seg)).2=0)=true by simp [hz]),if_pos (show (bn d (aC seg)).2≠0 from hz)]
     simp only [Option.bind_some]
     rw [if_neg (by simp),if_neg (show ¬decide ((bn d (aC seg)).2=0)=true by simp [hz])]
     rfl
   ·rw [if_neg (show ¬decide (((readM d (aC seg)).1.length:Int)≥256)=true by simp;omega),if_neg h6]
    simp only [Option.bind_some]
    rw [name_eq hs]
    simp only [Option.bind_some]
    rw [seal_eq (by omega)]
    simp only [Option.bind_some]
    rw [append_eq h _ _ (by omega)]
    rfl
theorem wsync_eq {d:Disk} (h:DOk d) {seg:Int} (hs:In64 seg):wal_Sync d seg=some (wsyncM d seg):=by
 unfold wal_Sync wsyncM
 rw [name_eq hs]
 simp only [Option.bind_some]
 rw [find_eq h.len]
 simp only [Option.bind_some]
 cases hh:has d.Files (aC seg) with
 |false=>rfl
 |true=>rw [if_neg (by simp),if_neg (by simp),sync_eq h];rfl
theorem put_db {d:Disk} (h:DB d) (seg:Int) (rec:Str):DB (wputM d seg rec).1:=by
 unfold wputM
 split
 ·exact h
 split
 ·exact h
 rename_i hr
 have hsl:=sealM_len (s:=rec) (by omega)
 split
 ·split
  ·exact sync_db h _
  split
  ·exact sync_db h _
  ·exact append_db (sync_db h _) _ _ (by omega)
 ·exact append_db h _ _ (by omega)
def cutTail:Nat→Disk→Int→Disk×Int
 |0,d,_=>(d,0)
 |n+1,d,k=>if has d.Files (aC k)=false then (d,0) else if (aQ d (aC k)).2≠0 then aQ d (aC k) else cutTail n (aQ d (aC k)).1 (k+1)
def dr (d:Disk) (seg:Int) (s:Str):Disk×Int:=
 if (lay3 d newN s).2≠0 then lay3 d newN s else
 if (bq (lay3 d newN s).1 newN (aC seg)).2≠0 then bq (lay3 d newN s).1 newN (aC seg) else
 cutTail (1000000 - seg).toNat (bq (lay3 d newN s).1 newN (aC seg)).1 (seg+1)
theorem tail_db (n:Nat): ∀ {d:Disk} (h:DB d) (k:Int),DB (cutTail n d k).1:=by
 induction n with
 |zero=>intro d h k;exact h
 |succ n ih=>
  intro d h k
  unfold cutTail
  split
  ·exact h
  split
  ·exact delete_db h _
  ·exact ih (delete_db h _) _
theorem cut_db {d:Disk} (h:DB d) (seg:Int) (s:Str) (hs:s.length≤1099511627776):DB (dr d seg s).1:=by
 unfold dr
 split
 ·exact lay3_db h _ _ hs
 split
 ·exact rename_db (lay3_db h _ _ hs) _ _
 ·exact tail_db _ (rename_db (lay3_db h _ _ hs) _ _) _
theorem cut_stop (e k:Int) (d:Disk) (he:e≠0):loop (fun (s765:Int×Int×(List File)×Int×Int×Bool)=>wal_cut_l2 s765.1 s765.2.1 s765.2.2.1 s765.2.2.2.1 s765.2.2.2.2.1 s765.2.2.2.2.2) (e,k,d.Files,d.Room,d.Fuse,d.Off)=some (e,d.Files,d.Room,d.Fuse,d.Off):=by
 refine aF ?_
 simp only
 unfold wal_cut_l2
 rw [if_neg (show ¬decide (e=0)=true by simpa using he)]
 rfl
theorem cut_loop (n:Nat): ∀(d:Disk) (k:Int),DOk d→1≤k→k+n=1000001→
 loop (fun (s765:Int×Int×(List File)×Int×Int×Bool)=>wal_cut_l2 s765.1 s765.2.1 s765.2.2.1 s765.2.2.2.1 s765.2.2.2.2.1 s765.2.2.2.2.2) (0,k,d.Files,d.Room,d.Fuse,d.Off)=some ((cutTail n d k).2,(cutTail n d k).1.Files,(cutTail n d k).1.Room,(cutTail n d k).1.Fuse,(cutTail n d k).1.Off):=by
 induction n with
 |zero=>
  intro d k h h1 hk
  refine aF ?_
  simp only
  unfold wal_cut_l2
  have:mayM k=false:=by unfold mayM;simp;omega
  rw [if_pos (show decide ((0:Int)=0)=true from rfl),may_eq,this]
  rfl
 |succ n ih=>
  intro d k h h1 hk
  have hm:mayM k=true:=by rw [mayM_iff];omega
  have hs:wal_cut_l2 0 k d.Files d.Room d.Fuse d.Off=if has d.Files (aC k)=false then some (.inr (0,d.Files,d.Room,d.Fuse,d.Off)) else
   some (.inl ((aQ d (aC k)).2,k+1,(aQ d (aC k)).1.Files,(aQ d (aC k)).1.Room,(aQ d (aC k)).1.Fuse,(aQ d (aC k)).1.Off)):=by
   unfold wal_cut_l2
   rw [if_pos (show decide ((0:Int)=0)=true from rfl),may_eq,hm]
   simp only [Option.bind_some]
   rw [if_pos trivial,name_eq ⟨by omega,by omega⟩]
   simp only [Option.bind_some]
   rw [find_eq h.len]
   simp only [Option.bind_some]
   cases hh:has d.Files (aC k) with
   |false=>rfl
   |true=>
    rw [if_neg (by simp),if_neg (by simp),delete_eq h,IntWalk.i64_in _ ⟨by omega,by omega⟩]
    rfl
  unfold cutTail
  by_cases hh:has d.Files (aC k)=false
  ·rw [if_pos hh] at hs⊢
   exact aF hs
  ·rw [if_neg hh] at hs⊢
   rw [bz hs]
   by_cases hz:(aQ d (aC k)).2=0
   ·rw [if_neg (by simpa using hz),hz]
    exact ih _ _ (delete_ok h _) (by omega) (by omega)
   ·rw [if_pos hz]
    exact cut_stop _ _ _ hz
theorem cut_eq {d:Disk} (h:DOk d) {seg:Int} (hm:mayM seg=true) (s:Str) (hs:s.length≤1099511627776):wal_cut d seg s=some (dr d seg s):=by
 have hb:=mayM_iff.1 hm
 unfold wal_cut dr
 rw [find_eq h.len]
 simp only [Option.bind_some]
 have e1:(if has d.Files [119,46,110,101,119]=true then (disk_Delete d [119,46,110,101,119]).bind fun y23=>
  if (!(decide (y23.2=0)))=true then some ((.inr (y23.2,y23.1.Files,y23.1.Room,y23.1.Fuse,y23.1.Off)):((List File)×Int×Int×Bool)⊕(Int×(List File)×Int×Int×Bool))
  else some (.inl (y23.1.Files,y23.1.Room,y23.1.Fuse,y23.1.Off))
  else some (.inl (d.Files,d.Room,d.Fuse,d.Off)))=
  some (if (aE d newN).2≠0 then .inr ((aE d newN).2,(aE d newN).1.Files,(aE d newN).1.Room,(aE d newN).1.Fuse,(aE d newN).1.Off) else .inl ((aE d newN).1.Files,(aE d newN).1.Room,(aE d newN).1.Fuse,(aE d newN).1.Off)):=by
  unfold aE
  change (if has d.Files newN=true then _ else _)=_
  cases hh:has d.Files newN with
  |true=>
   rw [if_pos rfl,if_pos rfl]
   change ((disk_Delete d newN).bind _)=_
   rw [delete_eq h]
   simp only [Option.bind_some]
   by_cases hz:(aQ d newN).2=0
   ·rw [if_neg (by simp [hz]),if_neg (by simp [hz])]
   ·rw [if_pos (by simp [hz]),if_pos hz]
  |false=>rfl
 rw [e1]
 simp only [Option.bind_some]
 unfold lay3 lay2
 by_cases hz:(aE d newN).2=0
 ·rw [if_neg (show ¬(aE d newN).2≠0 by simpa using hz),if_neg (show ¬(aE d newN).2≠0 by simpa using hz)]
  simp only
  change ((disk_Append (aE d newN).1 newN s).bind _)=_
  have k1:=clear_ok h newN
  rw [append_eq k1 _ s hs]
  simp only [Option.bind_some]
  by_cases hz2:(av (aE d newN).1 newN s).2=0
  ·rw [if_neg (show ¬(!decide ((av (aE d newN).1 newN s).2=0))=true by simp [hz2]),if_neg (show ¬(av (aE d newN).1 newN s).2≠0 by simpa using hz2)]
   change ((disk_Sync (av (aE d newN).1 newN s).1 newN).bind _)=_
   have k2:=append_ok2 k1 newN s hs
   rw [sync_eq k2]
   simp only [Option.bind_some]
   by_cases hz3:(bn (av (aE d newN).1 newN s).1 newN).2=0
   ·rw [if_neg (show ¬(!decide ((bn (av (aE d newN).1 newN s).1 newN).2=0))=true by simp [hz3]),if_neg (show ¬(bn (av (aE d newN).1 newN s).1 newN).2≠0 by simpa using hz3),name_eq ⟨by omega,by omega⟩]
    simp only [Option.bind_some]
    change ((disk_Rename (bn (av (aE d newN).1 newN s).1 newN).1 newN (aC seg)).bind _)=_
    have k3:=sync_ok k2 newN
    rw [rename_eq k3]
    simp only [Option.bind_some]
    rw [IntWalk.i64_in _ ⟨by omega,by omega⟩]
    by_cases hz4:(bq (bn (av (aE d newN).1 newN s).1 newN).1 newN (aC seg)).2=0
    ·rw [if_neg (show ¬(bq (bn (av (aE d newN).1 newN s).1 newN).1 newN (aC seg)).2≠0 by simpa using hz4),hz4,cut_loop (1000000 - seg).toNat _ _ (rename_ok k3 _ _) (by omega) (by omega)]
     rfl
    ·rw [if_pos (show (bq (bn (av (aE d newN).1 newN s).1 newN).1 newN (aC seg)).2≠0 from hz4),cut_stop _ _ _ hz4]
     rfl
   ·rw [if_pos (show (!decide ((bn (av (aE d newN).1 newN s).1 newN).2=0))=true by simp [hz3]),if_pos (show (bn (av (aE d newN).1 newN s).1 newN).2≠0 from hz3)]
  ·rw [if_pos (show (!decide ((av (aE d newN).1 newN s).2=0))=true by simp [hz2]),if_pos (show (av (aE d newN).1 newN s).2≠0 from hz2),if_pos (show (av (aE d newN).1 newN s).2≠0 from hz2)]
 ·rw [if_pos (show (aE d newN).2≠0 from hz),if_pos (show (aE d newN).2≠0 from hz),if_pos (show (aE d newN).2≠0 from hz),if_pos (show (aE d newN).2≠0 from hz)]
end Go.Ab
namespace Go.Ab
set_option linter.unusedVariables false
set_option linter.unusedSimpArgs false
def rdM (d:Disk) (seg:Int):Str:=(readM d (aC seg)).1
def recM (d:Disk) (from_:Int):Nat→Int→Int→List Str→Disk×List Str×Int×Int
 |0,last,_,out=>(d,out,last,0)
 |n+1,last,seg,out=>
  if (readM d (aC seg)).2≠0 then (d,out,last,0) else
  if scanP (rdM d seg)<(rdM d seg).length then
   if (dr d seg ((rdM d seg).take (scanP (rdM d seg)))).2≠0 then ((dr d seg ((rdM d seg).take (scanP (rdM d seg)))).1,[],from_,(dr d seg ((rdM d seg).take (scanP (rdM d seg)))).2)
   else ((dr d seg ((rdM d seg).take (scanP (rdM d seg)))).1,out++scanL (rdM d seg),seg,0)
  else recM d from_ n seg (seg+1) (out++scanL (rdM d seg))
def cH (d:Disk) (from_:Int):Disk×List Str×Int×Int:=
 if mayM from_=false then (d,[],from_,1) else recM d from_ (1000001 - from_).toNat from_ from_ []
theorem rec_loop {d:Disk} (h:DB d) (from_:Int) (n:Nat): ∀(last seg:Int) (out:List Str),1≤seg→seg+n=1000001→out.length+n*1048576≤1048577000000→
 ((loop (fun (s593:Int×Int×(List Str))=>wal_Recover_l2 d s593.1 s593.2.1 s593.2.2) (last,seg,out)).bind fun (y589:(Int×(List File)×Int×Int×Bool×(List Str))⊕(Int×(List File)×Int×Int×Bool))=>
 match y589 with
 |(.inl v591)=>
  some (({Files:=v591.2.1,Room:=v591.2.2.1,Fuse:=v591.2.2.2.1,Off:=v591.2.2.2.2.1}:Disk),v591.2.2.2.2.2,v591.1,(0:Int))
 |(.inr v592)=>
  some (({Files:=v592.2.1,Room:=v592.2.2.1,Fuse:=v592.2.2.2.1,Off:=v592.2.2.2.2}:Disk),([]:List Str),from_,v592.1))=some (recM d from_ n last seg out):=by
 induction n with
 |zero=>
  intro last seg out h1 hk hb
  have hm:mayM seg=false:=by unfold mayM;simp;omega
  rw [aF (r:= .inl (last,d.Files,d.Room,d.Fuse,d.Off,out))]
  ·rfl
  ·simp only
   unfold wal_Recover_l2
   rw [may_eq,hm]
   rfl
 |succ n ih=>
  intro last seg out h1 hk hb
  have hm:mayM seg=true:=by rw [mayM_iff];omega
  have hrl:(rdM d seg).length≤1048576:=db_read h _
  have hsl:=scanL_len (rdM d seg)
  have hpl:=scanP_le (rdM d seg)
  unfold recM
  by_cases hz:(readM d (aC seg)).2≠0
  ·rw [if_pos hz,aF (r:= .inl (last,d.Files,d.Room,d.Fuse,d.Off,out))]
   ·rfl
   ·simp only
    unfold wal_Recover_l2
    rw [may_eq,hm]
    simp only [Option.bind_some]
    rw [if_pos trivial,name_eq ⟨by omega,by omega⟩]
    simp only [Option.bind_some]
    rw [read_eq h.ok]
    simp only [Option.bind_some]
    rw [if_pos (by simp [hz])]
  ·rw [if_neg hz]
   have hz0:(readM d (aC seg)).2=0:=by simpa using hz
   have hstep:wal_Recover_l2 d last seg out=if scanP (rdM d seg)<(rdM d seg).length then
    (if (dr d seg ((rdM d seg).take (scanP (rdM d seg)))).2≠0 then some (.inr (.inr ((dr d seg ((rdM d seg).take (scanP (rdM d seg)))).2,(dr d seg ((rdM d seg).take (scanP (rdM d seg)))).1.Files,(dr d seg ((rdM d seg).take (scanP (rdM d seg)))).1.Room,(dr d seg ((rdM d seg).take (scanP (rdM d seg)))).1.Fuse,(dr d seg ((rdM d seg).take (scanP (rdM d seg)))).1.Off)))
      else some (.inr (.inl (seg,(dr d seg ((rdM d seg).take (scanP (rdM d seg)))).1.Files,(dr d seg ((rdM d seg).take (scanP (rdM d seg)))).1.Room,(dr d seg ((rdM d seg).take (scanP (rdM d seg)))).1.Fuse,(dr d seg ((rdM d seg).take (scanP (rdM d seg)))).1.Off,out++scanL (rdM d seg)))))
    else some (.inl (seg,seg+1,out++scanL (rdM d seg))):=by
    unfold wal_Recover_l2
    rw [may_eq,hm]
    simp only [Option.bind_some]
    rw [if_pos trivial,name_eq ⟨by omega,by omega⟩]
    simp only [Option.bind_some]
    rw [read_eq h.ok]
    simp only [Option.bind_some]
    rw [if_neg (by simp [hz0])]
    change ((wal_Scan (rdM d seg)).bind _)=_
    rw [scan_eq (by omega)]
    simp only [Option.bind_some]
    rw [ah (by omega)]
    change (if decide ((scanP (rdM d seg):Int)<((rdM d seg).length:Int))=true then aL (0≤(0:Int)∧0≤(scanP (rdM d seg):Int)∧(scanP (rdM d seg):Int)≤((rdM d seg).length:Int)) ((wal_cut d seg (cut (rdM d seg) 0 (scanP (rdM d seg):Int))).bind _) else _)=_
    by_cases hc:scanP (rdM d seg)<(rdM d seg).length
    ·rw [if_pos (show decide ((scanP (rdM d seg):Int)<((rdM d seg).length:Int))=true by simp;omega),if_pos hc,ah (by omega),cut_head,Int.toNat_natCast,cut_eq h.ok hm _ (by rw [List.length_take];omega)]
     simp only [Option.bind_some]
     by_cases hw:(dr d seg ((rdM d seg).take (scanP (rdM d seg)))).2≠0
     ·rw [if_pos hw,if_pos (by simp [hw])]
     ·rw [if_neg hw,if_neg (by simpa using hw)]
    ·rw [if_neg (show ¬decide ((scanP (rdM d seg):Int)<((rdM d seg).length:Int))=true by simp;omega),if_neg hc,IntWalk.i64_in _ ⟨by omega,by omega⟩]
   by_cases hc:scanP (rdM d seg)<(rdM d seg).length
   ·rw [if_pos hc] at hstep⊢
    by_cases hw:(dr d seg ((rdM d seg).take (scanP (rdM d seg)))).2≠0
    ·rw [if_pos hw] at hstep⊢
     rw [aF hstep];rfl
    ·rw [if_neg hw] at hstep⊢
     rw [aF hstep];rfl
   ·rw [if_neg hc] at hstep⊢
    rw [bz hstep]
    exact ih seg (seg+1) _ (by omega) (by omega) (by rw [List.length_append];omega)
theorem recover_eq {d:Disk} (h:DB d) (from_:Int):wal_Recover d from_=some (cH d from_):=by
 unfold wal_Recover cH
 rw [may_eq]
 simp only [Option.bind_some]
 cases hm:mayM from_ with
 |false=>rfl
 |true=>
  have hb:=mayM_iff.1 hm
  rw [if_neg (by simp),if_neg (by simp)]
  exact rec_loop h from_ (1000001 - from_).toNat from_ from_ [] (by omega) (by omega) (by simp;omega)
theorem rec_len {d:Disk} (h:DB d) (from_:Int) (n:Nat): ∀(last seg:Int) (out:List Str),(recM d from_ n last seg out).2.1.length≤out.length+n*1048576:=by
 induction n with
 |zero=>intro _ _ out;simp [recM]
 |succ n ih=>
  intro last seg out
  have hrl:(rdM d seg).length≤1048576:=db_read h _
  have hsl:=scanL_len (rdM d seg)
  unfold recM
  split
  ·simp only;omega
  split
  ·split
   ·simp
   ·simp only [List.length_append];omega
  ·have:=ih seg (seg+1) (out++scanL (rdM d seg))
   rw [List.length_append] at this
   omega
theorem recover_len {d:Disk} (h:DB d) (from_:Int):(cH d from_).2.1.length≤1048577000000:=by
 unfold cH
 split
 ·simp
 ·rename_i hm
  have hb:=mayM_iff.1 (show mayM from_=true by simpa using hm)
  have:=rec_len h from_ (1000001 - from_).toNat from_ from_ []
  simp only [List.length_nil] at this
  omega
def dropT (to:Int):Nat→Disk→Int→Disk×Int
 |0,d,_=>(d,0)
 |n+1,d,k=>if to≤k then (d,0) else if has d.Files (aC k)=false then dropT to n d (k+1) else
  if (aQ d (aC k)).2≠0 then aQ d (aC k) else dropT to n (aQ d (aC k)).1 (k+1)
def wdropM (d:Disk) (from_ to:Int):Disk×Int:=dropT to (1000001 - (if from_<1 then 1 else from_)).toNat d (if from_<1 then 1 else from_)
theorem drop_loop (to:Int) (n:Nat): ∀(d:Disk) (k:Int),DOk d→1≤k→(k+n=1000001∨(n=0∧1000001≤k∧k≤9223372036854775807))→
 ((loop (fun (s1103:Int×(List File)×Int×Int×Bool)=>wal_Drop_l2 to s1103.1 s1103.2.1 s1103.2.2.1 s1103.2.2.2.1 s1103.2.2.2.2) (k,d.Files,d.Room,d.Fuse,d.Off)).bind fun (y1099:(Int×(List File)×Int×Int×Bool)⊕((List File)×Int×Int×Bool))=>
 match y1099 with
 |(.inl v1101)=>
  some (({Files:=v1101.2.1,Room:=v1101.2.2.1,Fuse:=v1101.2.2.2.1,Off:=v1101.2.2.2.2}:Disk),v1101.1)
 |(.inr v1102)=>
  some (({Files:=v1102.1,Room:=v1102.2.1,Fuse:=v1102.2.2.1,Off:=v1102.2.2.2}:Disk),0))=some (dropT to n d k):=by
 induction n with
 |zero=>
  intro d k h h1 hk
  have hm:mayM k=false:=by unfold mayM;simp;omega
  rw [aF (r:= .inr (d.Files,d.Room,d.Fuse,d.Off))]
  ·rfl
  ·simp only
   unfold wal_Drop_l2
   by_cases ht:k<to
   ·rw [if_pos (by simpa using ht),may_eq,hm];rfl
   ·rw [if_neg (by simpa using ht)];rfl
 |succ n ih=>
  intro d k h h1 hk
  have hkk:k+((n+1:Nat):Int)=1000001:=by rcases hk with h|h;exact h;omega
  have hm:mayM k=true:=by rw [mayM_iff];omega
  unfold dropT
  by_cases ht:to≤k
  ·rw [if_pos ht,aF (r:= .inr (d.Files,d.Room,d.Fuse,d.Off))]
   ·rfl
   ·simp only
    unfold wal_Drop_l2
    rw [if_neg (by simp;omega)];rfl
  ·rw [if_neg ht]
   have hstep:wal_Drop_l2 to k d.Files d.Room d.Fuse d.Off=if has d.Files (aC k)=false then some (.inl (k+1,d.Files,d.Room,d.Fuse,d.Off)) else
    if (aQ d (aC k)).2≠0 then some (.inr (.inl ((aQ d (aC k)).2,(aQ d (aC k)).1.Files,(aQ d (aC k)).1.Room,(aQ d (aC k)).1.Fuse,(aQ d (aC k)).1.Off)))
    else some (.inl (k+1,(aQ d (aC k)).1.Files,(aQ d (aC k)).1.Room,(aQ d (aC k)).1.Fuse,(aQ d (aC k)).1.Off)):=by
    unfold wal_Drop_l2
    rw [if_pos (show decide (k<to)=true by simp;omega),may_eq,hm]
    simp only [Option.bind_some]
    rw [if_pos trivial,name_eq ⟨by omega,by omega⟩,IntWalk.i64_in (k+1) ⟨by omega,by omega⟩]
    simp only [Option.bind_some]
    rw [find_eq h.len]
    simp only [Option.bind_some]
    cases hh:has d.Files (aC k) with
    |false=>rfl
    |true=>
     rw [if_neg (by simp),if_neg (show ¬true=false by simp),delete_eq h]
     simp only [Option.bind_some]
     by_cases hz:(aQ d (aC k)).2≠0
     ·rw [if_pos hz,if_pos (by simp [hz])];rfl
     ·rw [if_neg hz,if_neg (by simpa using hz)];rfl
   by_cases hh:has d.Files (aC k)=false
   ·rw [if_pos hh] at hstep⊢
    rw [bz hstep]
    exact ih d (k+1) h (by omega) (by omega)
   ·rw [if_neg hh] at hstep⊢
    by_cases hz:(aQ d (aC k)).2≠0
    ·rw [if_pos hz] at hstep⊢
     rw [aF hstep];rfl
    ·rw [if_neg hz] at hstep⊢
     rw [bz hstep]
     exact ih _ (k+1) (delete_ok h _) (by omega) (by omega)
theorem drop_eq {d:Disk} (h:DOk d) {from_:Int} (hf:In64 from_) (to:Int):wal_Drop d from_ to=some (wdropM d from_ to):=by
 unfold wal_Drop wdropM
 refine drop_loop to _ d _ h ?_ ?_
 ·split<;>omega
 ·split<;>omega
theorem dropT_db (to:Int) (n:Nat): ∀ {d:Disk} (h:DB d) (k:Int),DB (dropT to n d k).1:=by
 induction n with
 |zero=>intro d h k;exact h
 |succ n ih=>
  intro d h k
  unfold dropT
  split
  ·exact h
  split
  ·exact ih h _
  split
  ·exact delete_db h _
  ·exact ih (delete_db h _) _
end Go.Ab
namespace Go.Ab
set_option linter.unusedVariables false
set_option linter.unusedSimpArgs false
theorem rmay1_eq (p:Pair):run_may_1 p=some (!shortP p):=by
 unfold run_may_1 shortP
 by_cases h1:p.Key.length≤65536
 ·rw [if_neg (by simp;omega)]
  by_cases h2:p.Val.length≤65536
  ·have: ¬((p.Val.length:Int)>65536):=by omega
   simp [h1,h2];omega
  ·have:(p.Val.length:Int)>65536:=by omega
   simp [h2];omega
 ·rw [if_pos (by simp;omega)];simp [h1]
theorem rcontains_eq {s:List Pair} (hl:s.length≤4398046511104):bR s=some (!s.all shortP):=by
 unfold bR cW
 rcases find_first s (fun w=> !shortP w) (fun k=>(.inl (k:Int):Int⊕Unit)) (.inr ()) (fun (s169:Int)=>bm s s169) (fun k x hk=>by
  have hlt:=(List.getElem?_eq_some_iff.1 hk).1
  unfold bm
  rw [if_pos (by simpa using hlt),aP hlt,(List.getElem?_eq_some_iff.1 hk).2,IntWalk.i64_in _ ⟨by omega,by omega⟩]
  simp only [Option.bind_some,rmay1_eq]
  cases h:shortP x<;>simp) (by unfold bm;rw [if_neg (by simp)]) with ⟨k,x,hk,h1,h2,h3⟩|⟨h1,h3⟩
 ·rw [h1]
  have:s.all shortP=false:=List.all_eq_false.2 ⟨x,List.mem_of_getElem? hk,by simpa using h2⟩
  rw [this];simp
 ·rw [h1]
  have:s.all shortP=true:=List.all_eq_true.2 (fun x hx=>by simpa using h3 x hx)
  rw [this];simp
theorem runmay_eq {l:List Pair} (hl:l.length≤1099511627776):run_may l=some (mayR l):=by
 unfold run_may mayR
 rw [right_eq hl]
 simp only [Option.bind_some]
 cases rightM l with
 |false=>rfl
 |true=>rw [if_pos rfl,rcontains_eq (by omega)];simp
theorem takeP_len {s r:Str} {p:Pair} (h:takeP s=some (p,r)):r.length≤s.length∧p.Key.length≤s.length∧2≤s.length - r.length∧r.length+2≤s.length:=by
 have h2:=cu s 65536
 have h3:=cu (ai s 65536).2.1 65536
 unfold takeP at h
 split at h
 ·cases h
 split at h
 ·cases h
 rename_i c1 c2
 cases h
 have e1:=takeText_inv (s:=s) (most:=65536) (by simpa using c1)
 have e2:=takeText_inv (s:=(ai s 65536).2.1) (most:=65536) (by simpa using c2)
 have p1:0<(bM (ai s 65536).1).length:=by unfold bM numS;simp;omega
 have p2:0<(bM (ai (ai s 65536).2.1 65536).1).length:=by unfold bM numS;simp;omega
 have l1:=congrArg List.length e1.1
 have l2:=congrArg List.length e2.1
 rw [List.length_append] at l1 l2
 simp only
 omega
theorem takePs_mem (n:Nat): ∀ {s r:Str} {l:List Pair},takePs n s=some (l,r)→l.length=n∧(∀w∈l,w.Key.length≤s.length)∧n+r.length≤s.length:=by
 induction n with
 |zero=>intro s r l h;unfold takePs at h;cases h;exact ⟨rfl,by simp,by omega⟩
 |succ n ih=>
  intro s r l h
  unfold takePs at h
  cases hw:takeP s with
  |none=>rw [hw] at h;cases h
  |some p=>
   rw [hw] at h
   obtain ⟨w,r1⟩:=p
   simp only at h
   cases hq:takePs n r1 with
   |none=>rw [hq] at h;cases h
   |some p2=>
    rw [hq] at h
    obtain ⟨l1,q⟩:=p2
    simp only at h
    cases h
    obtain ⟨h1,h2,h3⟩:=ih hq
    have hwl:=takeP_len hw
    refine ⟨by simp [h1],fun x hx=> ?_,by omega⟩
    rcases List.mem_cons.1 hx with rfl|hx
    ·exact hwl.2.1
    ·exact Nat.le_trans (h2 x hx) hwl.1
end Go.Ab
namespace Go.Ab
set_option linter.unusedVariables false
set_option linter.unusedSimpArgs false
theorem runtake_loop {n:Int} {y:Int×Str×Int} (hy:y.1=n) (hn:n≤18446744073709551615): ∀(m k:Nat) (s:Str) (acc:List Pair),(k:Int)+m=n→k+s.length≤1099511627776→acc.length=k→
 (∃q l,takePs m s=some (l,q)∧loop (fun (s185:Str×Int×(List Pair))=>run_Take_l2 y s185.1 s185.2.1 s185.2.2) (s,(k:Int),acc)=some (q,acc++l))∨
 (takePs m s=none∧ ∃s' acc',loop (fun (s185:Str×Int×(List Pair))=>run_Take_l2 y s185.1 s185.2.1 s185.2.2) (s,(k:Int),acc)=some (s',acc')∧(acc'.length:Int)<n):=by
 intro m
 induction m with
 |zero=>
  intro k s acc hk hl ha
  exact .inl ⟨s,[],rfl,by rw [aF (r:=(s,acc)) (by simp only;unfold run_Take_l2;rw [if_neg (by simp;omega)]),List.append_nil]⟩
 |succ m ih=>
  intro k s acc hk hl ha
  have h2:=cu s 65536
  have h3:=cu (ai s 65536).2.1 65536
  have n1:(acc.length+1)*32≤140737488355328:=by omega
  have hs:run_Take_l2 y s (k:Int) acc=(match takeP s with|none=>some (.inr (s,acc))|some (w,r)=>some (.inl (r,((k+1:Nat):Int),acc++[w]))):=by
   unfold run_Take_l2 takeP
   rw [if_pos (by simp;omega),u64_in (by omega) (by omega),takeText_eq (by omega) (by omega)]
   simp only [Option.bind_some]
   by_cases c2:(ai s 65536).2.2≠0
   ·rw [if_pos c2,if_pos (by simpa using c2)]
   ·rw [if_neg c2,if_neg (by simpa using c2),takeText_eq (by omega) (by omega)]
    simp only [Option.bind_some]
    by_cases c3:(ai (ai s 65536).2.1 65536).2.2≠0
    ·rw [if_pos c3,if_pos (by simpa using c3)]
    ·rw [if_neg c3,if_neg (by simpa using c3),ah n1];rfl
  unfold takePs
  cases hw:takeP s with
  |none=>
   rw [hw] at hs
   exact .inr ⟨rfl,s,acc,aF (by simpa using hs),by omega⟩
  |some p=>
   obtain ⟨w,r⟩:=p
   rw [hw] at hs
   have hwl:=takeP_len hw
   rw [bz (by simpa using hs)]
   have hi:=ih (k+1) r (acc++[w]) (by omega) (by omega) (by simp [ha])
   rw [show ((k:Int)+1)=((k+1:Nat):Int) from rfl]
   rcases hi with ⟨q,l,e1,e2⟩|⟨e1,s',acc',e2,e3⟩
   ·exact .inl ⟨q,w::l,by simp only;rw [e1],by rw [e2];simp⟩
   ·exact .inr ⟨by simp only;rw [e1],s',acc',e2,e3⟩
theorem runtake_eq {s:Str} (hl:s.length≤1099511627776):run_Take s=some (takeR s):=by
 have hol:=openM_len s 1073741824
 have r1:=cT (aN s 1073741824).1
 have n1:=takeNumM_nat (aN s 1073741824).1
 unfold run_Take takeR
 rw [open_eq hl (by omega)]
 simp only [Option.bind_some]
 rw [takeNum_eq (by omega)]
 simp only [Option.bind_some]
 by_cases c1:(aN s 1073741824).2.2≠0∨(aN s 1073741824).2.1≠[]
 ·rw [if_pos c1,if_pos (by
   rcases c1 with c1|c1
   ·simp [c1]
   ·simp [c1])]
 rw [if_neg c1]
 have c1a:(aN s 1073741824).2.2=0:=by omega
 have c1b:(aN s 1073741824).2.1=[]:=Classical.not_not.1 (fun h=>c1 (.inr h))
 by_cases c2:(ae (aN s 1073741824).1).2.2≠0
 ·rw [if_pos c2,if_pos (by simp [c2])]
 have c2a:(ae (aN s 1073741824).1).2.2=0:=by omega
 rw [if_neg c2,if_neg (by simp [c1a,c1b,c2a])]
 have hlp:=runtake_loop (n:=(ae (aN s 1073741824).1).1) (y:=ae (aN s 1073741824).1) rfl n1.2 (ae (aN s 1073741824).1).1.toNat 0 (ae (aN s 1073741824).1).2.1 [] (by omega) (by omega) rfl
 simp only [Int.natCast_zero,Int.ofNat_eq_natCast] at hlp
 rcases hlp with ⟨q,l,e1,e2⟩|⟨e1,s',acc',e2,e3⟩
 ·have hm:=takePs_mem _ e1
  rw [e2,e1]
  simp only [Option.bind_some,List.nil_append]
  have hw:IntKind.u64.wrap (l.length:Int)=(ae (aN s 1073741824).1).1:=by rw [u64_in (by omega) (by omega)];omega
  rw [hw]
  by_cases hq:q=[]
  ·subst hq
   rw [if_neg (by simp),if_neg (by simp),runmay_eq (by omega)]
   simp only [Option.bind_some]
   cases hmb:mayR l<;>simp
  ·rw [if_neg (by simp),if_pos (by simpa using hq),if_pos (.inl hq)];simp
 ·rw [e2,e1]
  simp only [Option.bind_some]
  have hw:IntKind.u64.wrap (acc'.length:Int)=(acc'.length:Int):=u64_in (by omega) (by omega)
  rw [hw,if_pos (by simp;omega)];simp
theorem manif_eq {f r:Int} (hf:In64 f) (hr:In64 r):kv_Manifest f r=some (manifM f r):=by
 unfold In64 at hf hr
 unfold kv_Manifest manifM
 have e1:(if f<0 then (0:Int) else f)=(((max f 0).toNat:Nat):Int):=by split<;>omega
 have e2:(if r<0 then (0:Int) else r)=(((max r 0).toNat:Nat):Int):=by split<;>omega
 have l1:=numS_len (n:=(max f 0).toNat) (by omega)
 have l2:=numS_len (n:=(max r 0).toNat) (by omega)
 rw [e1,e2,u64_in (by omega) (by omega),u64_in (by omega) (by omega),num_eq (by omega),num_eq (by omega)]
 simp only [Option.bind_some]
 rw [ah (by omega),seal_eq (by rw [List.length_append];omega)];rfl
theorem manifM_len {f r:Int} (hf:In64 f) (hr:In64 r):(manifM f r).length≤100:=by
 unfold In64 at hf hr
 have l1:=numS_len (n:=(max f 0).toNat) (by omega)
 have l2:=numS_len (n:=(max r 0).toNat) (by omega)
 have l3:=sealM_len (s:=numS (max f 0).toNat++numS (max r 0).toNat) (by rw [List.length_append];omega)
 rw [List.length_append] at l3
 unfold manifM;omega
theorem takeman_eq {s:Str} (hl:s.length≤1099511627776):kv_TakeManifest s=some (takeMan s):=by
 have hol:=openM_len s 65536
 have r1:=cT (aN s 65536).1
 have n1:=takeNumM_nat (aN s 65536).1
 have n2:=takeNumM_nat (ae (aN s 65536).1).2.1
 unfold kv_TakeManifest takeMan
 rw [open_eq hl (by omega)]
 simp only [Option.bind_some]
 rw [takeNum_eq (by omega)]
 simp only [Option.bind_some]
 rw [takeNum_eq (by omega)]
 simp only [Option.bind_some]
 by_cases c1:(aN s 65536).2.2≠0∨(aN s 65536).2.1≠[]
 ·rw [if_pos c1,if_pos (by rcases c1 with c1|c1<;>simp [c1])]
 rw [if_neg c1]
 have c1a:(aN s 65536).2.2=0:=by omega
 have c1b:(aN s 65536).2.1=[]:=Classical.not_not.1 (fun h=>c1 (.inr h))
 by_cases c2:(ae (aN s 65536).1).2.2≠0∨(ae (aN s 65536).1).1<1∨(ae (aN s 65536).1).1>1000000
 ·rw [if_pos c2,if_pos (by rcases c2 with c2|c2|c2<;>simp [c2])]
 rw [if_neg c2]
 have c2a:(ae (aN s 65536).1).2.2=0:=by omega
 have c2b: ¬(ae (aN s 65536).1).1<1:=by omega
 have c2c: ¬1000000<(ae (aN s 65536).1).1:=by omega
 by_cases c3:(ae (ae (aN s 65536).1).2.1).2.2≠0∨(ae (ae (aN s 65536).1).2.1).1>1000000∨(ae (ae (aN s 65536).1).2.1).2.1≠[]
 ·rw [if_pos c3,if_pos (by rcases c3 with c3|c3|c3<;>simp [c3])]
 rw [if_neg c3]
 have c3a:(ae (ae (aN s 65536).1).2.1).2.2=0:=by omega
 have c3b: ¬1000000<(ae (ae (aN s 65536).1).2.1).1:=by omega
 have c3c:(ae (ae (aN s 65536).1).2.1).2.1=[]:=Classical.not_not.1 (fun h=>c3 (.inr (.inr h)))
 rw [if_neg (by simp [c1a,c1b,c2a,c3a,c3c];omega),IntWalk.i64_in _ ⟨by omega,by omega⟩,IntWalk.i64_in _ ⟨by omega,by omega⟩]
theorem runnm_eq {n:Int}:kv_RunName n=some (br n):=by
 unfold kv_RunName br
 by_cases h:1≤n∧n≤1000000
 ·rw [if_neg (by simp;omega),if_pos h]
  have hl:=numS_len (n:=n.toNat) (by omega)
  have he:(numS n.toNat).length=(figS n.toNat).length+1:=by rw [numS_fig];simp
  have e:IntKind.u64.wrap n=((n.toNat:Nat):Int):=by rw [u64_in (by omega) (by omega)];omega
  unfold kv_number
  rw [e,num_eq (by omega)]
  simp only [Option.bind_some]
  rw [trim_num _ (by omega)]
  simp only [Option.bind_some]
  rw [ah (by simp only [List.length_cons,List.length_nil];omega)];rfl
 ·rw [if_pos (by simp;omega),if_neg h]
end Go.Ab
namespace Go.Ab
set_option linter.unusedVariables false
set_option linter.unusedSimpArgs false
theorem pBytes_fold (l:List Pair) (a:Str):l.foldl (fun a p=>a++(bM p.Key++bM p.Val)) a=a++pBytes l:=by
 induction l generalizing a with
 |nil=>simp [pBytes]
 |cons x r ih=>rw [List.foldl_cons,ih];simp [pBytes]
theorem pair_bytes {p:Pair} (h:shortP p=true):p.Key.length≤65536∧p.Val.length≤65536∧(bM p.Key).length≤65558∧(bM p.Val).length≤65558∧0<(bM p.Key).length:=by
 unfold shortP at h
 simp only [Bool.and_eq_true,decide_eq_true_eq] at h
 have k:=textM_le (t:=p.Key) (k:=65536) h.1 (by omega)
 have v:=textM_le (t:=p.Val) (k:=65536) h.2 (by omega)
 have p1:0<(bM p.Key).length:=by unfold bM numS;simp;omega
 omega
theorem pBytes_le {l:List Pair} (h:l.all shortP=true):(pBytes l).length≤131200*l.length:=by
 induction l with
 |nil=>simp [pBytes]
 |cons p r ih=>
  rw [List.all_cons,Bool.and_eq_true] at h
  have h1:=pair_bytes h.1
  have h2:=ih h.2
  have e:pBytes (p::r)=bM p.Key++(bM p.Val++pBytes r):=rfl
  rw [e]
  simp only [List.length_append,List.length_cons];omega
theorem runbytes_eq {l:List Pair} (hl:l.length≤6100000):run_Bytes l=some (bytesR l):=by
 unfold run_Bytes bytesR
 rw [runmay_eq (by omega)]
 simp only [Option.bind_some]
 cases hm:mayR l with
 |false=>rfl
 |true=>
  have hm2:=hm
  unfold mayR at hm2
  rw [Bool.and_eq_true] at hm2
  have hg:=List.all_eq_true.1 hm2.2
  have hn:=numS_len (n:=l.length) (by omega)
  have hn0:0<(numS l.length).length:=by unfold numS;simp
  have ew:IntKind.u64.wrap (l.length:Int)=((l.length:Nat):Int):=u64_in (by omega) (by omega)
  simp only [Bool.not_true,Bool.false_eq_true,if_false,if_true]
  rw [ew,num_eq (by omega)]
  simp only [Option.bind_some]
  rw [ah (by simp only [List.length_nil];omega)]
  have h:=fold_loop (ρ:=Str) l (fun k (a:Str)=>((k:Int),a)) (fun (s106:Int×Str)=>run_Bytes_l2 l s106.1 s106.2) (fun a p=>a++(bM p.Key++bM p.Val)) (fun a=>a) (fun k a=>a.length≤22+131200*k∧0<a.length)
   (fun k x a hk hi=>by
     have hlt:=(List.getElem?_eq_some_iff.1 hk).1
     have hb:=pair_bytes (hg x (List.mem_of_getElem? hk))
     refine ⟨?_,by simp only [List.length_append];omega⟩
     have n1:(bM x.Key).length+(bM x.Val).length≤9223372036854775807:=by omega
     have n2:0<(bM x.Key++bM x.Val).length∧a.length+(bM x.Key++bM x.Val).length≤140737488355328:=by simp only [List.length_append];omega
     simp only
     unfold run_Bytes_l2
     rw [if_pos (by simpa using hlt),aP hlt,(List.getElem?_eq_some_iff.1 hk).2,IntWalk.i64_in _ ⟨by omega,by omega⟩]
     simp only [Option.bind_some]
     rw [text_eq (by omega),text_eq (by omega)]
     simp only [Option.bind_some]
     rw [ah n1,ah n2]
     rfl)
   (fun a hi=>by simp only;unfold run_Bytes_l2;rw [if_neg (by simp)]) (([]:Str)++numS l.length) (by simp only [List.length_append,List.length_nil];omega)
  obtain ⟨e1,e2,e3⟩:=h
  simp only [Int.natCast_zero,Int.ofNat_eq_natCast] at e1
  rw [e1]
  simp only [Option.bind_some]
  rw [ah e3,pBytes_fold]
  have hp:=pBytes_le hm2.2
  rw [List.nil_append,seal_eq (by rw [List.length_append];omega)];rfl
def loadM (d:Disk) (name:Str):List Pair×Int:=if (readM d name).2≠0 then ([],(readM d name).2) else takeR (readM d name).1
theorem load_eq {d:Disk} (h:DB d) (name:Str):run_Load d name=some (loadM d name):=by
 have hr:=db_read h name
 unfold run_Load loadM
 rw [read_eq h.ok]
 simp only [Option.bind_some]
 by_cases c:(readM d name).2≠0
 ·rw [if_pos c,if_pos (by simpa using c)]
 ·rw [if_neg c,if_neg (by simpa using c),runtake_eq (by omega)];rfl
theorem takeR_len {s:Str} (hl:s.length≤1099511627776):(takeR s).1.length≤s.length∧(∀p∈(takeR s).1,p.Key.length≤s.length):=by
 have hol:=openM_len s 1073741824
 have r1:=cT (aN s 1073741824).1
 unfold takeR
 split
 ·simp
 split
 ·simp
 split
 ·simp
 ·rename_i l q hq
  have hm:=takePs_mem _ hq
  split
  ·simp
  ·refine ⟨by simp only;omega,fun p hp=> ?_⟩
   have:=hm.2.1 p hp
   omega
theorem loadM_len {d:Disk} (h:DB d) (name:Str):(loadM d name).1.length≤1048576∧(∀p∈(loadM d name).1,p.Key.length≤1048576):=by
 have hr:=db_read h name
 have ht:=takeR_len (s:=(readM d name).1) (by omega)
 unfold loadM
 split
 ·simp
 ·exact ⟨by omega,fun p hp=>by have:=ht.2 p hp;omega⟩
end Go.Ab
namespace Go.Ab
set_option linter.unusedVariables false
set_option linter.unusedSimpArgs false
def sumL:List Str→Nat
 |[]=>0
 |t::r=>t.length+sumL r
theorem sumL_cons (t:Str) (r:List Str):sumL (t::r)=t.length+sumL r:=rfl
theorem sumL_append (a b:List Str):sumL (a++b)=sumL a+sumL b:=by
 induction a with
 |nil=>simp [sumL]
 |cons t r ih=>rw [List.cons_append,sumL_cons,sumL_cons,ih];omega
theorem sumL_seal (l:List Str):sumL l≤(aw l).length:=by
 induction l with
 |nil=>simp [sumL]
 |cons t r ih=>
  have e:aw (t::r)=ck t++aw r:=rfl
  have h:t.length≤(ck t).length:=by unfold ck bM;simp only [List.length_append];omega
  rw [e,List.length_append]
  unfold sumL;omega
theorem scanL_sum (s:Str):sumL (scanL s)≤s.length:=Nat.le_trans (sumL_seal _) (scanP_le s)
theorem rec_sum {d:Disk} (h:DB d) (from_:Int) (n:Nat): ∀(last seg:Int) (out:List Str),sumL (recM d from_ n last seg out).2.1≤sumL out+n*1048576:=by
 induction n with
 |zero=>intro _ _ out;simp [recM]
 |succ n ih=>
  intro last seg out
  have hrl:(rdM d seg).length≤1048576:=db_read h _
  have hsl:=scanL_sum (rdM d seg)
  unfold recM
  split
  ·simp only;omega
  split
  ·split
   ·simp [sumL]
   ·simp only [sumL_append];omega
  ·have:=ih seg (seg+1) (out++scanL (rdM d seg))
   rw [sumL_append] at this
   omega
theorem recover_sum {d:Disk} (h:DB d) (from_:Int):sumL (cH d from_).2.1≤1048577000000:=by
 unfold cH
 split
 ·simp [sumL]
 ·rename_i hm
  have hb:=mayM_iff.1 (show mayM from_=true by simpa using hm)
  have:=rec_sum h from_ (1000001 - from_).toNat from_ from_ []
  simp only [sumL] at this
  omega
theorem rec_mem {d:Disk} (h:DB d) (from_:Int) (n:Nat): ∀(last seg:Int) (out:List Str),(∀t∈out,t.length≤1048576)→ ∀t∈(recM d from_ n last seg out).2.1,t.length≤1048576:=by
 induction n with
 |zero=>intro _ _ out ho;simpa [recM] using ho
 |succ n ih=>
  intro last seg out ho
  have hrl:(rdM d seg).length≤1048576:=db_read h _
  have hsl:=scanL_sum (rdM d seg)
  have hm: ∀(l:List Str) (t:Str),t∈l→t.length≤sumL l:=by
   intro l
   induction l with
   |nil=>intro t ht;cases ht
   |cons x r ihl=>
    intro t ht
    unfold sumL
    rcases List.mem_cons.1 ht with rfl|ht
    ·omega
    ·have:=ihl t ht;omega
  have ho2: ∀t∈out++scanL (rdM d seg),t.length≤1048576:=fun t ht=>by
   rcases List.mem_append.1 ht with ht|ht
   ·exact ho t ht
   ·have:=hm _ t ht;omega
  unfold recM
  split
  ·exact ho
  split
  ·split
   ·intro t ht;cases ht
   ·exact ho2
  ·exact ih seg (seg+1) _ ho2
theorem recover_mem {d:Disk} (h:DB d) (from_:Int): ∀t∈(cH d from_).2.1,t.length≤1048576:=by
 unfold cH
 split
 ·intro t ht;cases ht
 ·exact rec_mem h from_ _ _ _ [] (by intro t ht;cases ht)
theorem takeW_less {s r:Str} {w:Write} (h:takeW s=some (w,r)):r.length+1≤s.length:=by
 have h1:=cT s
 have h2:=cu (ae s).2.1 32
 have h3:=cu (ai (ae s).2.1 32).2.1 64
 unfold takeW at h
 split at h
 ·cases h
 split at h
 ·cases h
 split at h
 ·cases h
 rename_i c1 c2 c3
 cases h
 have e1:=takeText_inv (s:=(ae s).2.1) (most:=32) (by simpa using c2)
 have p1:0<(bM (ai (ae s).2.1 32).1).length:=by unfold bM numS;simp;omega
 have l1:=congrArg List.length e1.1
 rw [List.length_append] at l1
 omega
theorem takeWs_less (n:Nat): ∀ {s r:Str} {l:List Write},takeWs n s=some (l,r)→n+r.length≤s.length:=by
 induction n with
 |zero=>intro s r l h;unfold takeWs at h;cases h;omega
 |succ n ih=>
  intro s r l h
  unfold takeWs at h
  cases hw:takeW s with
  |none=>rw [hw] at h;cases h
  |some p=>
   rw [hw] at h
   obtain ⟨w,r1⟩:=p
   simp only at h
   cases hq:takeWs n r1 with
   |none=>rw [hq] at h;cases h
   |some p2=>
    rw [hq] at h
    obtain ⟨l1,q⟩:=p2
    simp only at h
    cases h
    have h1:=ih hq
    have hwl:=takeW_less hw
    omega
theorem takeBt_facts (s:Str):((takeBt s).2=0∨(takeBt s).2=3)∧(takeBt s).1.Writes.length≤s.length∧(∀w∈(takeBt s).1.Writes,w.Key.length≤s.length):=by
 have r1:=cT s
 have r2:=cu (ae s).2.1 16
 have r3:=cT (ai (ae s).2.1 16).2.1
 have nb:noBatch.Writes=[]:=rfl
 unfold takeBt
 split
 ·simp [nb]
 split
 ·simp [nb]
 split
 ·simp [nb]
 split
 ·simp [nb]
 ·rename_i l q hq
  have hm:=takeWs_mem _ hq
  have hl:=takeWs_less _ hq
  split
  ·simp [nb]
  ·exact ⟨.inl rfl,by simp only;omega,fun w hw=>by have:=hm.2 w hw;omega⟩
theorem doB_len (s:State) (b:Batch):(doB s b).1.Data.length≤s.Data.length+b.Writes.length∧(doB s b).1.Toks.length≤s.Toks.length+1:=by
 unfold doB
 split
 ·simp only;omega
 split
 ·simp only;omega
 ·have h1:=applyM_len b.Writes s.Data
  have h2:=putP_len s.Toks b.Token (gaveUp b)
  simp only;omega
def basedM (d:Disk) (n:Int):State×Int:=if n=0 then (noState,0) else if (loadM d (br n)).2≠0 then (noState,3) else backM (loadM d (br n)).1
def recsM:List Str→State→Option State
 |[],s=>some s
 |r::l,s=>if (takeBt r).2≠0 then none else recsM l (doB s (takeBt r).1).1
def noDisk:Disk:=⟨[],0,0,false⟩
def noStore:Store:=⟨noDisk,0,0,0,noState,false⟩
def manOf (d:Disk):Int×Int×Int:=if (readM d [109]).2=0 then takeMan (readM d [109]).1 else (1,0,0)
def openK (d:Disk):Store×Int:=
 if (manOf d).2.2≠0 then (noStore,(manOf d).2.2) else
 if (basedM d (manOf d).2.1).2≠0 then (noStore,(basedM d (manOf d).2.1).2) else
 if (cH d (manOf d).1).2.2.2≠0 then (noStore,(cH d (manOf d).1).2.2.2) else
 match recsM (cH d (manOf d).1).2.1 (basedM d (manOf d).2.1).1 with
 |none=>(noStore,3)
 |some s=>(⟨(cH d (manOf d).1).1,(manOf d).1,(cH d (manOf d).1).2.2.1,(manOf d).2.1,s,false⟩,0)
theorem takeMan_facts (s:Str):((takeMan s).2.2=0∨(takeMan s).2.2=3)∧0≤(takeMan s).1∧(takeMan s).1≤1000000∧0≤(takeMan s).2.1∧(takeMan s).2.1≤1000000:=by
 have n2:=takeNumM_nat (ae (aN s 65536).1).2.1
 unfold takeMan
 split
 ·simp
 split
 ·simp
 split
 ·simp
 ·rename_i c1 c2 c3
  have h1: ¬(ae (aN s 65536).1).1<1:=fun h=>c2 (.inr (.inl h))
  have h2: ¬(ae (aN s 65536).1).1>1000000:=fun h=>c2 (.inr (.inr h))
  have h3: ¬(ae (ae (aN s 65536).1).2.1).1>1000000:=fun h=>c3 (.inr (.inl h))
  exact ⟨.inl rfl,by simp only;omega,by simp only;omega,by simp only;omega,by simp only;omega⟩
theorem manOf_facts (d:Disk):((manOf d).2.2=0∨(manOf d).2.2=3)∧0≤(manOf d).1∧(manOf d).1≤1000000∧0≤(manOf d).2.1∧(manOf d).2.1≤1000000:=by
 unfold manOf
 split
 ·exact takeMan_facts _
 ·simp
theorem backS_len {s t:State} {p:Pair} (h:backS s p=some t):t.Data.length+t.Toks.length≤s.Data.length+s.Toks.length+1:=by
 unfold backS at h
 split at h
 ·cases h
 split at h
 ·cases h;simp only [List.length_append,List.length_cons,List.length_nil];omega
 split at h
 ·cases h;simp only [List.length_append,List.length_cons,List.length_nil];omega
 ·cases h
theorem backF_len (l:List Pair): ∀ {s t:State},backF l s=some t→t.Data.length+t.Toks.length≤s.Data.length+s.Toks.length+l.length:=by
 induction l with
 |nil=>intro s t h;unfold backF at h;cases h;simp
 |cons p r ih=>
  intro s t h
  unfold backF at h
  cases hb:backS s p with
  |none=>rw [hb] at h;cases h
  |some u=>
   rw [hb] at h
   have h1:=backS_len hb
   have h2:=ih h
   simp only [List.length_cons];omega
theorem backM_len (l:List Pair):(backM l).1.Data.length+(backM l).1.Toks.length≤l.length∧((backM l).2=0∨(backM l).2=3):=by
 unfold backM
 cases h:backF l noState with
 |none=>simp [noState]
 |some s=>
  have:=backF_len l h
  simp [noState] at this⊢;omega
theorem basedM_len {d:Disk} (h:DB d) (n:Int):(basedM d n).1.Data.length+(basedM d n).1.Toks.length≤1048576∧((basedM d n).2=0∨(basedM d n).2=3):=by
 have hl:=loadM_len h (br n)
 unfold basedM
 split
 ·simp [noState]
 split
 ·simp [noState]
 ·have:=backM_len (loadM d (br n)).1
  exact ⟨by omega,this.2⟩
theorem based_eq {d:Disk} (h:DB d) (n:Int):kv_based d n=some (basedM d n):=by
 unfold kv_based basedM
 by_cases h0:n=0
 ·rw [if_pos (by simpa using h0),if_pos h0];rfl
 ·rw [if_neg (by simpa using h0),if_neg h0,runnm_eq]
  simp only [Option.bind_some]
  rw [load_eq h]
  simp only [Option.bind_some]
  have hl:=loadM_len h (br n)
  by_cases c:(loadM d (br n)).2≠0
  ·rw [if_pos c,if_pos (by simpa using c)];rfl
  ·rw [if_neg c,if_neg (by simpa using c),backB_eq (by omega) (fun p hp=>by have:=hl.2 p hp;omega)];rfl
theorem recs_loop {y:Disk×List Str×Int×Int} (hm: ∀t∈y.2.1,t.length≤1048576) (hlen:y.2.1.length≤1048577000000): ∀(m k:Nat) (s:State),k+m=y.2.1.length→s.Data.length+sumL (y.2.1.drop k)≤1400000000000→s.Toks.length+m≤1400000000000→
 loop (fun (s149:Int×(List Pair)×(List Pair))=>kv_Open_l2 y s149.1 s149.2.1 s149.2.2) ((k:Int),s.Data,s.Toks)=some (match recsM (y.2.1.drop k) s with|none=>.inl 3|some t=>.inr (t.Data,t.Toks)):=by
 intro m
 induction m with
 |zero=>
  intro k s hk hd ht
  have:k=y.2.1.length:=by omega
  subst this
  rw [List.drop_length]
  refine aF ?_
  simp only
  unfold kv_Open_l2
  rw [if_neg (by simp)];rfl
 |succ m ih=>
  intro k s hk hd ht
  have hlt:k<y.2.1.length:=by omega
  have hdr:y.2.1.drop k=y.2.1[k]::y.2.1.drop (k+1):=List.drop_eq_getElem_cons hlt
  have hkx:=hm y.2.1[k] (List.getElem_mem hlt)
  have hf:=takeBt_facts y.2.1[k]
  have hdl:=doB_len s (takeBt y.2.1[k]).1
  rw [hdr] at hd⊢
  unfold sumL at hd
  unfold recsM
  have hso:SOk s:=⟨by omega,by omega⟩
  by_cases c:(takeBt y.2.1[k]).2≠0
  ·rw [if_pos c]
   have c3:(takeBt y.2.1[k]).2=3:=by omega
   refine aF ?_
   simp only
   unfold kv_Open_l2
   rw [if_pos (by simpa using hlt),aP hlt]
   simp only [Option.bind_some]
   rw [takeB_eq (by omega)]
   simp only [Option.bind_some]
   rw [if_pos (by simpa using c),c3]
  ·rw [if_neg c]
   have hs:kv_Open_l2 y (k:Int) s.Data s.Toks=some (.inl (((k+1:Nat):Int),(doB s (takeBt y.2.1[k]).1).1.Data,(doB s (takeBt y.2.1[k]).1).1.Toks)):=by
    unfold kv_Open_l2
    rw [if_pos (by simpa using hlt),aP hlt,IntWalk.i64_in _ ⟨by omega,by omega⟩]
    simp only [Option.bind_some]
    rw [takeB_eq (by omega)]
    simp only [Option.bind_some]
    rw [if_neg (by simpa using c),do_eq hso];rfl
   have hs2:= @bz _ _ (fun (s149:Int×(List Pair)×(List Pair))=>kv_Open_l2 y s149.1 s149.2.1 s149.2.2) ((k:Int),s.Data,s.Toks) _ hs
   rw [hs2]
   exact ih (k+1) _ (by omega) (by omega) (by omega)
theorem open_eqK {d:Disk} (h:DB d):kv_Open d=some (openK d):=by
 have hr:=db_read h [109]
 have hmf:=manOf_facts d
 unfold kv_Open openK
 rw [read_eq h.ok]
 simp only [Option.bind_some]
 have hman:(if decide ((readM d [109]).2=0)=true then (kv_TakeManifest (readM d [109]).1).bind fun y22=>if (!(decide (y22.2.2=0)))=true then some (.inr y22.2.2) else some (.inl (y22.1,y22.2.1)) else some (.inl (1,0)):Option ((Int×Int)⊕Int))=some (if (manOf d).2.2≠0 then .inr (manOf d).2.2 else .inl ((manOf d).1,(manOf d).2.1)):=by
  unfold manOf
  by_cases c:(readM d [109]).2=0
  ·rw [if_pos (by simpa using c),if_pos c,takeman_eq (by omega)]
   simp only [Option.bind_some]
   by_cases c2:(takeMan (readM d [109]).1).2.2=0<;>simp [c2]
  ·rw [if_neg (by simpa using c),if_neg c];rfl
 rw [hman]
 simp only [Option.bind_some]
 by_cases c1:(manOf d).2.2≠0
 ·rw [if_pos c1,if_pos c1];rfl
 rw [if_neg c1,if_neg c1]
 simp only
 rw [based_eq h]
 simp only [Option.bind_some]
 have hbl:=basedM_len h (manOf d).2.1
 by_cases c2:(basedM d (manOf d).2.1).2≠0
 ·rw [if_pos c2,if_pos (by simpa using c2)];rfl
 rw [if_neg c2,if_neg (by simpa using c2),recover_eq h]
 simp only [Option.bind_some]
 by_cases c3:(cH d (manOf d).1).2.2.2≠0
 ·rw [if_pos c3,if_pos (by simpa using c3)];rfl
 rw [if_neg c3,if_neg (by simpa using c3)]
 have hsum:=recover_sum h (manOf d).1
 have hlen:=recover_len h (manOf d).1
 have hlp:=recs_loop (y:=cH d (manOf d).1) (recover_mem h _) hlen (cH d (manOf d).1).2.1.length 0 (basedM d (manOf d).2.1).1 (by omega) (by rw [List.drop_zero];omega) (by omega)
 simp only [Int.natCast_zero,Int.ofNat_eq_natCast,List.drop_zero] at hlp
 rw [hlp]
 simp only [Option.bind_some]
 cases recsM (cH d (manOf d).1).2.1 (basedM d (manOf d).2.1).1<;>rfl
end Go.Ab
namespace Go.Ab
set_option linter.unusedVariables false
set_option linter.unusedSimpArgs false
def bK (x:Store) (b:Batch):Store×Int:=
 if x.Down=true then (x,6) else
 if (df b).2≠0 then (x,(df b).2) else
 if hasK x.S.Toks b.Token=true then (x,8) else
 if (wputM x.D x.Seg (df b).1).2.2≠0 then (⟨(wputM x.D x.Seg (df b).1).1,x.From,(wputM x.D x.Seg (df b).1).2.1,x.Run,x.S,decide ((wputM x.D x.Seg (df b).1).2.2=6)⟩,(wputM x.D x.Seg (df b).1).2.2) else
 if (wsyncM (wputM x.D x.Seg (df b).1).1 (wputM x.D x.Seg (df b).1).2.1).2≠0 then (⟨(wsyncM (wputM x.D x.Seg (df b).1).1 (wputM x.D x.Seg (df b).1).2.1).1,x.From,(wputM x.D x.Seg (df b).1).2.1,x.Run,x.S,decide ((wsyncM (wputM x.D x.Seg (df b).1).1 (wputM x.D x.Seg (df b).1).2.1).2=6)⟩,(wsyncM (wputM x.D x.Seg (df b).1).1 (wputM x.D x.Seg (df b).1).2.1).2) else
 (⟨(wsyncM (wputM x.D x.Seg (df b).1).1 (wputM x.D x.Seg (df b).1).2.1).1,x.From,(wputM x.D x.Seg (df b).1).2.1,x.Run,(doB x.S b).1,false⟩,0)
theorem wput_seg {d:Disk} {seg:Int} (hs:In64 seg) (rec:Str):In64 (wputM d seg rec).2.1:=by
 unfold In64 at*
 unfold wputM
 split
 ·exact hs
 rename_i hm
 have hb:=mayM_iff.1 (show mayM seg=true by simpa using hm)
 split
 ·exact hs
 split
 ·split
  ·exact hs
  split
  ·exact hs
  ·simp only;omega
 ·exact hs
theorem fails_ways (e:Int):kv_fails e=some (if e=0 then .inl () else if e=6 then .inr (.inl e) else .inr (.inr e)):=by
 unfold kv_fails
 by_cases h0:e=0
 ·simp [h0]
 ·by_cases h6:e=6
  ·simp [h6]
  ·simp [h0,h6]
structure StoOk (x:Store):Prop where
 d:DB x.D
 s:SOk x.S
 seg:In64 x.Seg
theorem commit_eqK {x:Store} (h:StoOk x) (b:Batch):kv_Commit x b=some (bK x b):=by
 have hseg:=wput_seg (d:=x.D) h.seg (df b).1
 unfold kv_Commit bK
 rw [bbytes_eq]
 simp only [Option.bind_some]
 cases hd:x.Down with
 |true=>rfl
 |false=>
  simp only [Bool.false_eq_true,if_false]
  by_cases c1:(df b).2≠0
  ·rw [if_pos c1,if_pos (by simpa using c1)]
  rw [if_neg c1,if_neg (by simpa using c1),decided_eq h.s]
  simp only [Option.bind_some,findM_has]
  cases hk:hasK x.S.Toks b.Token with
  |true=>rfl
  |false=>
   simp only [Bool.false_eq_true,if_false]
   rw [put_eq h.d.ok h.seg]
   simp only [Option.bind_some]
   rw [fails_ways]
   simp only [Option.bind_some]
   generalize hp:wputM x.D x.Seg (df b).1=p at hseg⊢
   by_cases c2:p.2.2=0
   ·have hpd:DOk p.1:=by rw [←hp];exact (put_db h.d x.Seg _).ok
    rw [if_pos c2,if_neg (by simp [c2])]
    simp only
    rw [wsync_eq hpd hseg]
    simp only [Option.bind_some]
    rw [fails_ways]
    simp only [Option.bind_some]
    generalize hq:wsyncM p.1 p.2.1=q
    by_cases c3:q.2=0
    ·rw [if_pos c3,if_neg (by simp [c3])]
     simp only
     rw [do_eq h.s];rfl
    ·rw [if_neg c3,if_pos c3]
     by_cases c4:q.2=6
     ·rw [if_pos c4]
      simp [kv_told,c4]
     ·rw [if_neg c4]
      simp [kv_told_2,c4]
   ·rw [if_neg c2,if_pos c2]
    by_cases c4:p.2.2=6
    ·rw [if_pos c4]
     simp [kv_told,c4]
    ·rw [if_neg c4]
     simp [kv_told_2,c4]
def crashK (x:Store) (keeps:List Int):Store×Int:=openK (crashM x.D keeps)
def armK (x:Store) (fuse:Int):Store:=⟨armM x.D fuse,x.From,x.Seg,x.Run,x.S,x.Down⟩
theorem commit_state (x:Store) (b:Batch):((bK x b).2≠0→(bK x b).1.S=x.S)∧((bK x b).2=0→(bK x b).1.S=(doB x.S b).1∧(doB x.S b).2=0):=by
 unfold bK
 split
 ·simp
 split
 ·rename_i h;exact ⟨fun _=>rfl,fun h2=>absurd h2 h⟩
 split
 ·simp
 split
 ·rename_i h;exact ⟨fun _=>rfl,fun h2=>absurd h2 h⟩
 split
 ·rename_i h;exact ⟨fun _=>rfl,fun h2=>absurd h2 h⟩
 ·rename_i h1 h2 h3 _ _
  refine ⟨fun h=>absurd rfl h,fun _=>⟨rfl,?_⟩⟩
  have hm:mayB b=true:=by
   cases hm:mayB b with
   |true=>rfl
   |false=>exfalso;apply h2;unfold df;rw [hm];simp
  unfold doB
  rw [if_neg (by rw [hm];simp),if_neg h3]
end Go.Ab
namespace Go.Ab
set_option linter.unusedVariables false
set_option linter.unusedSimpArgs false
theorem knum {l:Str} {n:Nat} (hv:valF 0 l=n) (hne:l≠[]) (h0:1<l.length→l[0]? ≠some 48) (hf: ∀c∈l,isFig c=true):numS n=l++[59]:=by
 rw [numS_fig,←hv,figS_val hne h0 hf]
theorem kname {l:Str} {n:Int} (hm:mayM n=true) (hv:valF 0 l=n.toNat) (hne:l≠[]) (h0:1<l.length→l[0]? ≠some 48) (hf: ∀c∈l,isFig c=true):aC n=119::l:=by
 unfold aC;rw [if_pos hm,←hv,figS_val hne h0 hf]
theorem kname1:aC 1=[119,49]:=kname (l:=[49]) rfl rfl (by simp) (by simp) (by decide)
def kb:Batch:=⟨1,[116],[⟨[97],[49],false⟩]⟩
def krec:Str:=[49,59,49,59,116,49,59,48,59,49,59,97,49,59,49]
def kseal:Str:=[49,53,59]++krec++[52,55,56,56,48,54,57,50,54,59]
theorem kb_may:mayB kb=true:=by decide
theorem kb_bytes:df kb=(krec,0):=by
 unfold df headB
 rw [if_pos kb_may]
 unfold kb bM wsBytes wBytes wsBytes delN bM
 simp only [List.length_cons,List.length_nil,Nat.reduceAdd,show ((1:Int).toNat)=1 from rfl,nums1]
 decide
theorem kseal_eq:ck krec=kseal:=by
 unfold ck bM
 rw [show krec.length=15 from rfl,knum (l:=[49,53]) (n:=15) (by decide) (by simp) (by simp) (by decide),show sumN krec=478806926 from by decide,knum (l:=[52,55,56,56,48,54,57,50,54]) (n:=478806926) (by decide) (by simp) (by simp) (by decide)]
 rfl
def kd0:Disk:=⟨[],1000, -1,false⟩
def kd1:Disk:=⟨[⟨[119,49],[],kseal⟩],972, -1,false⟩
def kd2:Disk:=⟨[⟨[119,49],kseal,[]⟩],972, -1,false⟩
def ks:State:=⟨[⟨[97],[49]⟩],[⟨[116],[99]⟩]⟩
theorem kdo:doB noState kb=(ks,0):=by decide
theorem kput:wputM kd0 1 krec=(kd1,1,0):=by
 unfold wputM
 rw [kname1,kseal_eq]
 decide
theorem ksync:wsyncM kd1 1=(kd2,0):=by
 unfold wsyncM
 rw [kname1]
 decide
theorem kopen0:openK kd0=(⟨kd0,1,1,0,noState,false⟩,0):=by
 have hm:manOf kd0=(1,0,0):=by decide
 have hb:basedM kd0 0=(noState,0):=by unfold basedM;rw [if_pos rfl]
 have hr:cH kd0 1=(kd0,[],1,0):=by
  unfold cH
  rw [if_neg (by decide)]
  show recM kd0 1 (999999+1) 1 1 []=_
  unfold recM
  rw [kname1,if_pos (by decide)]
 unfold openK
 rw [hm]
 simp only
 rw [hb,hr,if_neg (by simp),if_neg (by simp),if_neg (by simp)]
 rfl
theorem kcommit:bK ⟨kd0,1,1,0,noState,false⟩ kb=(⟨kd2,1,1,0,ks,false⟩,0):=by
 unfold bK
 simp only
 rw [kb_bytes]
 simp only
 rw [kput]
 simp only
 rw [ksync]
 simp only
 rw [kdo,if_neg (by simp),if_neg (by simp),if_neg (by decide),if_neg (by simp),if_neg (by simp)]
end Go.Ab
namespace Go.Ab
set_option linter.unusedVariables false
set_option linter.unusedSimpArgs false
end Go.Ab
namespace Go.Ab
set_option linter.unusedVariables false
set_option linter.unusedSimpArgs false
def twoL (d:Disk) (n s m:Str):Disk×Int:=if (layM d n s).2≠0 then layM d n s else layM (layM d n s).1 [109] m
def lay2K (x:Store):Disk×Int:=twoL x.D (br (x.Run+1)) (bytesR (dE x.S)).1 (manifM (x.Seg+1) (x.Run+1))
def goneK (d:Disk) (n:Str):Disk×Int:=if has d.Files n=true then aQ d n else (d,0)
def oldK (d:Disk) (run from_ to:Int):Disk×Int:=if (goneK d (br run)).2≠0 then goneK d (br run) else wdropM (goneK d (br run)).1 from_ to
def di (x:Store):Store×Int:=
 if x.Down=true then (x,6) else if 1000000≤x.Seg∨1000000≤x.Run then (x,5) else
 if (bytesR (dE x.S)).2≠0 then (x,(bytesR (dE x.S)).2) else
 if (lay2K x).2≠0 then (⟨(lay2K x).1,x.From,x.Seg,x.Run,x.S,decide ((lay2K x).2=6)⟩,(lay2K x).2) else
 (⟨(oldK (lay2K x).1 x.Run x.From (x.Seg+1)).1,x.Seg+1,x.Seg+1,x.Run+1,x.S,decide ((oldK (lay2K x).1 x.Run x.From (x.Seg+1)).2=6)⟩,(oldK (lay2K x).1 x.Run x.From (x.Seg+1)).2)
theorem runNm_len (n:Int):(br n).length≤30:=by
 unfold br
 split
 ·have:=fg_len 18 (n.toNat / 10) (by show n.toNat / 10<1000000000000000000;omega)
  unfold figS
  simp only [List.length_cons,List.length_append,List.length_nil]
  omega
 ·simp
theorem bytesR_len {l:List Pair} (hl:l.length≤6100000):(bytesR l).1.length≤1099511627776:=by
 unfold bytesR
 split
 ·rename_i hm
  unfold mayR at hm
  rw [Bool.and_eq_true] at hm
  have hp:=pBytes_le hm.2
  have hn:=numS_len (n:=l.length) (by omega)
  have hs:=sealM_len (s:=numS l.length++pBytes l) (by rw [List.length_append];omega)
  rw [List.length_append] at hs
  show (ck (numS l.length++pBytes l)).length≤1099511627776
  omega
 ·simp
theorem gone_db {d:Disk} (h:DB d) (n:Str):DB (goneK d n).1:=by
 unfold goneK;split
 ·exact delete_db h n
 ·exact h
theorem lay2_dbK {x:Store} (h:DB x.D) (hl:(dE x.S).length≤6100000) (hs:In64 (x.Seg+1)) (hr:In64 (x.Run+1)):DB (lay2K x).1:=by
 have h1:=lay_db h (br (x.Run+1)) (bytesR (dE x.S)).1 (bytesR_len hl)
 unfold lay2K twoL;split
 ·exact h1
 ·have:=manifM_len hs hr;exact lay_db h1 _ _ (by omega)
theorem check_S (x:Store):(di x).1.S=x.S:=by
 unfold di
 split
 ·rfl
 split
 ·rfl
 split
 ·rfl
 split<;>rfl
theorem old_eqK {x:Store} (h:DB x.D) (hd:x.Down=false) {from_:Int} (hf:In64 from_) (hr:IntKind.i64.wrap (x.Run - 1)=x.Run - 1):kv_old x from_=
 some (if (oldK x.D (x.Run - 1) from_ x.From).2=0 then .inl ⟨(oldK x.D (x.Run - 1) from_ x.From).1,x.From,x.Seg,x.Run,x.S,x.Down⟩ else
  if (oldK x.D (x.Run - 1) from_ x.From).2=6 then .inr (.inl (⟨(oldK x.D (x.Run - 1) from_ x.From).1,x.From,x.Seg,x.Run,x.S,x.Down⟩,6)) else
  .inr (.inr (⟨(oldK x.D (x.Run - 1) from_ x.From).1,x.From,x.Seg,x.Run,x.S,x.Down⟩,(oldK x.D (x.Run - 1) from_ x.From).2))):=by
 unfold kv_old oldK goneK
 rw [hr,runnm_eq]
 simp only [Option.bind_some]
 rw [find_eq h.ok.len]
 simp only [Option.bind_some]
 have fin: ∀d:Disk,DB d→((wal_Drop d from_ x.From).bind fun y9=>(kv_fails y9.2).bind fun y10=>match y10 with
  |(.inl y11)=>some (.inl ({D:=y9.1,From:=x.From,Seg:=x.Seg,Run:=x.Run,S:=x.S,Down:=x.Down}:Store))
  |(.inr (.inl y12))=>some (.inr (.inl (({D:=y9.1,From:=x.From,Seg:=x.Seg,Run:=x.Run,S:=x.S,Down:=x.Down}:Store),y12)))
  |(.inr (.inr y13))=>some (.inr (.inr (({D:=y9.1,From:=x.From,Seg:=x.Seg,Run:=x.Run,S:=x.S,Down:=x.Down}:Store),y13))):Option (Store⊕(Store×Int)⊕(Store×Int)))=
  some (if (wdropM d from_ x.From).2=0 then .inl ⟨(wdropM d from_ x.From).1,x.From,x.Seg,x.Run,x.S,x.Down⟩ else
  if (wdropM d from_ x.From).2=6 then .inr (.inl (⟨(wdropM d from_ x.From).1,x.From,x.Seg,x.Run,x.S,x.Down⟩,6)) else
  .inr (.inr (⟨(wdropM d from_ x.From).1,x.From,x.Seg,x.Run,x.S,x.Down⟩,(wdropM d from_ x.From).2))):=by
  intro d hdd
  rw [drop_eq hdd.ok hf]
  simp only [Option.bind_some]
  rw [fails_ways]
  simp only [Option.bind_some]
  by_cases c:(wdropM d from_ x.From).2=0
  ·simp [c]
  ·by_cases c6:(wdropM d from_ x.From).2=6
   ·simp [c6]
   ·simp [c,c6]
 cases hh:has x.D.Files (br (x.Run - 1)) with
 |false=>
  simp only [Bool.false_eq_true,if_false,Option.bind_some,ne_eq,not_true_eq_false]
  exact fin x.D h
 |true=>
  rw [if_pos rfl,if_pos rfl,delete_eq h.ok]
  simp only [Option.bind_some]
  have dd:=delete_db h (br (x.Run - 1))
  by_cases c:(aQ x.D (br (x.Run - 1))).2=0
  ·simp only [c,ne_eq,not_true_eq_false,if_false,decide_true,Bool.not_true,Bool.false_eq_true,Option.bind_some]
   exact fin _ dd
  ·simp only [c,ne_eq,not_false_eq_true,if_true,decide_false,Bool.not_false,if_false,fails_ways,Option.bind_some]
   by_cases c6:(aQ x.D (br (x.Run - 1))).2=6
   ·simp [c6]
   ·simp [c,c6]
theorem layTwo_loop {x:Store} (h:DB x.D) (hd:x.Down=false) {s:Str×Int} (hs:s.1.length≤1099511627776) {n m:Str} (hn:n.length≤1099511627776) (hm:m.length≤1099511627776):
 loop (fun (s1:Int×(List File)×Int×Int×Bool)=>kv_Check_l2 x s n m s1.1 s1.2.1 s1.2.2.1 s1.2.2.2.1 s1.2.2.2.2) ((0:Int),x.D.Files,x.D.Room,x.D.Fuse,x.D.Off)=
 some (if (twoL x.D n s.1 m).2=0 then .inr ((twoL x.D n s.1 m).1.Files,(twoL x.D n s.1 m).1.Room,(twoL x.D n s.1 m).1.Fuse,(twoL x.D n s.1 m).1.Off) else
  .inl ((twoL x.D n s.1 m).2,(twoL x.D n s.1 m).1.Files,(twoL x.D n s.1 m).1.Room,(twoL x.D n s.1 m).1.Fuse,(twoL x.D n s.1 m).1.Off,x.From,x.Seg,x.Run,x.S.Data,x.S.Toks,decide ((twoL x.D n s.1 m).2=6))):=by
 have one: ∀(d:Disk) (k:Nat) (nm_ t:Str),DB d→nm_.length≤1099511627776→t.length≤1099511627776→([(n,s.1),([109],m)]:List (Str×Str))[k]? =some (nm_,t)→
  kv_Check_l2 x s n m (k:Int) d.Files d.Room d.Fuse d.Off=some (if (layM d nm_ t).2=0 then .inl (((k+1:Nat):Int),(layM d nm_ t).1.Files,(layM d nm_ t).1.Room,(layM d nm_ t).1.Fuse,(layM d nm_ t).1.Off) else
   .inr (.inl ((layM d nm_ t).2,(layM d nm_ t).1.Files,(layM d nm_ t).1.Room,(layM d nm_ t).1.Fuse,(layM d nm_ t).1.Off,x.From,x.Seg,x.Run,x.S.Data,x.S.Toks,decide ((layM d nm_ t).2=6)))):=by
  intro d k nm_ t hdd h1 h2 hk
  have hlt:=(List.getElem?_eq_some_iff.1 hk).1
  simp only [List.length_cons,List.length_nil] at hlt
  unfold kv_Check_l2
  rw [if_pos (by simp;omega),ix_at hk]
  simp only [Option.bind_some]
  rw [show ({Files:=d.Files,Room:=d.Room,Fuse:=d.Fuse,Off:=d.Off}:Disk)=d from rfl,lay_eq hdd.ok nm_ t h1 h2]
  simp only [Option.bind_some]
  rw [fails_ways]
  simp only [Option.bind_some]
  by_cases c:(layM d nm_ t).2=0
  ·rw [if_pos c,if_pos c,IntWalk.i64_in _ ⟨by omega,by omega⟩];rfl
  ·rw [if_neg c,if_neg c]
   by_cases c6:(layM d nm_ t).2=6
   ·rw [if_pos c6];simp [kv_told,c6]
   ·rw [if_neg c6];simp [kv_told_2,c6,hd]
 have d1:=lay_db h n s.1 hs
 have r1:=one x.D 0 n s.1 h hn hs rfl
 have r2:=one (layM x.D n s.1).1 1 [109] m d1 (by simp) hm rfl
 by_cases c:(layM x.D n s.1).2=0
 ·rw [if_pos c] at r1
  have e1:= @bz _ _ (fun (s1:Int×(List File)×Int×Int×Bool)=>kv_Check_l2 x s n m s1.1 s1.2.1 s1.2.2.1 s1.2.2.2.1 s1.2.2.2.2) ((0:Int),x.D.Files,x.D.Room,x.D.Fuse,x.D.Off) _ r1
  rw [e1]
  have et:twoL x.D n s.1 m=layM (layM x.D n s.1).1 [109] m:=by unfold twoL;rw [if_neg (by simpa using c)]
  rw [et]
  by_cases c2:(layM (layM x.D n s.1).1 [109] m).2=0
  ·rw [if_pos c2] at r2⊢
   have e2:= @bz _ _ (fun (s1:Int×(List File)×Int×Int×Bool)=>kv_Check_l2 x s n m s1.1 s1.2.1 s1.2.2.1 s1.2.2.2.1 s1.2.2.2.2) (((0+1:Nat):Int),(layM x.D n s.1).1.Files,(layM x.D n s.1).1.Room,(layM x.D n s.1).1.Fuse,(layM x.D n s.1).1.Off) _ r2
   rw [e2]
   refine aF ?_
   simp only
   unfold kv_Check_l2
   rw [if_neg (by simp)]
  ·rw [if_neg c2] at r2⊢
   exact aF r2
 ·rw [if_neg c] at r1
  have et:twoL x.D n s.1 m=layM x.D n s.1:=by unfold twoL;rw [if_pos c]
  rw [et,if_neg c]
  exact aF r1
theorem check_eqK {x:Store} (h:DB x.D) (hk:SK x.S) (hl:(dE x.S).length≤6100000) (hs:In64 x.Seg) (hr:In64 x.Run) (hf:In64 x.From):kv_Check x=some (di x):=by
 unfold kv_Check di
 by_cases c1:x.Down=true
 ·rw [if_pos c1,if_pos c1]
 rw [if_neg c1,if_neg c1]
 have hd:x.Down=false:=by simpa using c1
 by_cases c2:1000000≤x.Seg∨1000000≤x.Run
 ·rw [if_pos c2,if_pos (by simpa using c2)]
 rw [if_neg c2,if_neg (by simpa using c2),pairsS_eq hk]
 simp only [Option.bind_some]
 rw [runbytes_eq hl]
 simp only [Option.bind_some]
 by_cases c3:(bytesR (dE x.S)).2≠0
 ·rw [if_pos c3,if_pos (by simpa using c3)]
 rw [if_neg c3,if_neg (by simpa using c3)]
 have w1:IntKind.i64.wrap (x.Run+1)=x.Run+1:=IntWalk.i64_in _ ⟨by omega,by omega⟩
 have w2:IntKind.i64.wrap (x.Seg+1)=x.Seg+1:=IntWalk.i64_in _ ⟨by omega,by omega⟩
 have w3:IntKind.i64.wrap (x.Run+1 - 1)=x.Run+1 - 1:=IntWalk.i64_in _ ⟨by omega,by omega⟩
 have w4:x.Run+1 - 1=x.Run:=by omega
 have hn1:=runNm_len (x.Run+1)
 have hb:=bytesR_len hl
 have hm:=manifM_len (f:=x.Seg+1) (r:=x.Run+1) ⟨by omega,by omega⟩ ⟨by omega,by omega⟩
 have d2:=lay2_dbK h hl (x:=x) ⟨by omega,by omega⟩ ⟨by omega,by omega⟩
 rw [w1,w2,runnm_eq]
 simp only [Option.bind_some]
 rw [manif_eq ⟨by omega,by omega⟩ ⟨by omega,by omega⟩]
 simp only [Option.bind_some]
 rw [layTwo_loop h hd hb (by omega) (by omega)]
 rw [show twoL x.D (br (x.Run+1)) (bytesR (dE x.S)).1 (manifM (x.Seg+1) (x.Run+1))=lay2K x from rfl]
 simp only [Option.bind_some]
 by_cases c4:(lay2K x).2=0
 ·rw [if_pos c4,if_neg (by simpa using c4)]
  simp only
  rw [show ({Files:=(lay2K x).1.Files,Room:=(lay2K x).1.Room,Fuse:=(lay2K x).1.Fuse,Off:=(lay2K x).1.Off}:Disk)=(lay2K x).1 from rfl]
  rw [old_eqK (x:=⟨(lay2K x).1,x.Seg+1,x.Seg+1,x.Run+1,x.S,x.Down⟩) d2 hd hf w3]
  simp only [Option.bind_some,w4]
  by_cases c5:(oldK (lay2K x).1 x.Run x.From (x.Seg+1)).2=0
  ·simp [c5,kv_told_3,hd]
  ·by_cases c6:(oldK (lay2K x).1 x.Run x.From (x.Seg+1)).2=6
   ·simp [c6,kv_told]
   ·simp [c5,c6,kv_told_2,hd]
 ·rw [if_neg c4,if_pos c4]
end Go.Ab
namespace Go.Ab
set_option linter.unusedVariables false
set_option linter.unusedSimpArgs false
theorem sumOf_mem {α:Type} {f:α→Nat}: ∀ {l:List α} {x:α},x∈l→f x≤sumOf f l
 |y::r,x,h=>by
  rcases List.mem_cons.1 h with rfl|h
  ·simp only [sumOf];omega
  ·have:=sumOf_mem (f:=f) h;simp only [sumOf];omega
theorem i64_of {n:Int} (h:okK .i64 n): -9223372036854775808≤n∧n≤9223372036854775807:=h
theorem new_db {room:Int} (h:In64 room):DB (newM room).1:=by
 unfold newM
 split
 ·exact ⟨⟨by simp,fun f hf=>(by cases hf),(by decide),(by decide)⟩,fun f hf=>by cases hf⟩
 ·exact ⟨⟨by simp,fun f hf=>(by cases hf),h,(by simp)⟩,fun f hf=>by cases hf⟩
end Go.Ab
namespace Go.Ab
set_option linter.unusedVariables false
set_option linter.unusedSimpArgs false
theorem open_part {t:Str} (ht:t.length<1099511627776) {k:Nat} (hk:k<(ck t).length):(aN ((ck t).take k) 2048).2.2≠0:=by
 intro h
 have hm:=m64
 obtain ⟨e1,e2,e3⟩:=open_inv (most:=2048) h
 have a1:=open_seal (t:=t) (most:=9223372036854775807) (by omega) (by omega) []
 rw [List.append_nil,←List.take_append_drop k (ck t)] at a1
 generalize hq:(ck t).drop k=q at a1
 have hql:0<q.length:=by rw [←hq,List.length_drop];omega
 rw [e1,List.append_assoc,open_seal (most:=9223372036854775807) e3 (by omega)] at a1
 have:=congrArg (fun x=>x.2.1.length) a1
 simp only [List.length_append,List.length_nil] at this
 omega
abbrev nm (k:Nat):Str:=aC (k:Int)
theorem nm_ne {a b:Nat} (ha:1≤a∧a≤1000000) (hb:1≤b∧b≤1000000) (h:a≠b):nm a≠nm b:=fun e=>by
 have:=nameM_inj (mayM_iff.2 (by omega)) (mayM_iff.2 (by omega)) e
 omega
theorem named_seg {k:Nat} (h:1≤k∧k≤1000000):named (nm k)=true:=by
 have hm:mayM (k:Int)=true:=by rw [mayM_iff];omega
 have hl:=fg_len 6 (k / 10) (by show k / 10<1000000;omega)
 unfold nm aC named
 rw [if_pos hm,Int.toNat_natCast]
 unfold figS
 simp
 omega
theorem append_cases (d:Disk) (name s:Str) (hoff:d.Off=false):
 ((av d name s).1=d∧(av d name s).2≠0∧(av d name s).2≠6)∨
 (∃k,k≤s.length∧has (av d name s).1.Files name=true∧aj (av d name s).1.Files name=⟨name,(aj d.Files name).Safe,(aj d.Files name).Wait++s.take k⟩∧
   (av d name s).1.Off=decide (k<s.length)∧(av d name s).2=(if k<s.length then 6 else 0)∧cG (aj d.Files name)+s.length≤65536):=by
 have ht: ∃k,k≤s.length∧torn d.Fuse s=s.take k:=by
  unfold torn;split
  ·rename_i h;exact ⟨d.Fuse.toNat,by omega,rfl⟩
  ·exact ⟨s.length,Nat.le_refl _,by rw [List.take_length]⟩
 obtain ⟨k,hk,e⟩:=ht
 have el:(torn d.Fuse s).length=k:=by rw [e,List.length_take];omega
 unfold av
 rw [if_neg (by simp [hoff])]
 by_cases c2:named name=false
 ·rw [if_pos c2];exact .inl ⟨rfl,by simp,by simp⟩
 rw [if_neg c2]
 by_cases c3:(has d.Files name=false∧64≤d.Files.length)∨d.Room<s.length
 ·rw [if_pos c3];exact .inl ⟨rfl,by simp,by simp⟩
 rw [if_neg c3]
 by_cases c4:65536<(cG (aj d.Files name):Int)+s.length
 ·rw [if_pos c4];exact .inl ⟨rfl,by simp,by simp⟩
 rw [if_neg c4]
 refine .inr ⟨k,hk,?_,?_,?_,?_,by omega⟩
 ·simp only
  rw [setF_has (has_with d.Files name) rfl];exact has_with _ _
 ·simp only
  rw [setF_at (has_with d.Files name) rfl,e]
 ·simp only
  rw [el]
 ·simp only
  rw [el]
def Torn (s:Str):Prop:=s=[]∨ ∃t k,t.length≤2048∧k<(ck t).length∧s=(ck t).take k
theorem torn_take {s:Str} (h:Torn s) (m:Nat):Torn (s.take m):=by
 rcases h with rfl|⟨t,k,h1,h2,rfl⟩
 ·exact .inl (by simp)
 ·rw [List.take_take];exact .inr ⟨t,min m k,h1,by omega,rfl⟩
theorem torn_open {s:Str} (h:Torn s):(aN s 2048).2.2≠0:=by
 rcases h with rfl|⟨t,k,h1,h2,rfl⟩
 ·exact open_nil
 ·exact open_part (by omega) h2
theorem scan_torn {l:List Str} {r:Str} (h: ∀t∈l,t.length≤2048) (hr:Torn r):scanL (aw l++r)=l∧scanP (aw l++r)=(aw l).length:=by
 have e:=scanL_of (scanned_of l _ r rfl h (torn_open hr))
 exact ⟨e,by unfold scanP;rw [e]⟩
theorem kept (cur:List Str): ∀(tl:Str) (m:Nat),(∀t∈cur,t.length≤2048)→Torn tl→ ∃j r,j≤cur.length∧Torn r∧(aw cur++tl).take m=aw (cur.take j)++r∧ ∀i,i≤cur.length→(aw (cur.take i)).length≤m→i≤j:=by
 induction cur with
 |nil=>intro tl m _ ht;exact ⟨0,tl.take m,Nat.le_refl _,torn_take ht m,by simp [aw],fun i hi _=>hi⟩
 |cons t cur ih=>
  intro tl m hs ht
  by_cases hm:m<(ck t).length
  ·refine ⟨0,(ck t).take m,Nat.zero_le _,.inr ⟨t,m,hs t (List.mem_cons_self ..),hm,rfl⟩,?_,fun i hi hl=> ?_⟩
   ·simp only [aw,List.take_zero,List.nil_append,List.append_assoc]
    rw [List.take_append_of_le_length (by omega)]
   ·cases i with
    |zero=>exact Nat.le_refl _
    |succ i=>rw [List.take_succ_cons] at hl;simp only [aw,List.length_append] at hl;omega
  ·obtain ⟨j,r,h1,h2,h3,h4⟩:=ih tl (m - (ck t).length) (fun x hx=>hs x (List.mem_cons_of_mem _ hx)) ht
   refine ⟨j+1,r,by simp only [List.length_cons];omega,h2,?_,fun i hi hl=> ?_⟩
   ·rw [List.take_succ_cons]
    simp only [aw,List.append_assoc]
    rw [←h3,List.take_append,List.take_of_length_le (by omega)]
   ·cases i with
    |zero=>omega
    |succ i=>
     rw [List.take_succ_cons] at hl
     simp only [aw,List.length_append] at hl
     simp only [List.length_cons] at hi
     have:=h4 i (by omega) (by omega)
     omega
structure KLog (b:Nat) (d:Disk) (pre:List (List Str)) (cur:List Str) (tl:Str):Prop where
 db:DB d
 few:b+pre.length+1≤1000000
 one: ∀n,cnt d.Files n≤1
 new:has d.Files newN=false
 none: ∀k:Nat,b+pre.length+1<k→k≤1000000→has d.Files (nm k)=false
 old: ∀(i:Nat) s,pre[i]? =some s→has d.Files (nm (b+i+1))=true∧aj d.Files (nm (b+i+1))=⟨nm (b+i+1),aw s,[]⟩∧(aw s).length≤65536
 now:(aj d.Files (nm (b+pre.length+1))).Safe++(aj d.Files (nm (b+pre.length+1))).Wait=aw cur++tl
 size:cG (aj d.Files (nm (b+pre.length+1)))≤65536
 tail:Torn tl
 small: ∀s∈pre,∀t∈s,t.length≤2048
 small2: ∀t∈cur,t.length≤2048
theorem KLog.seg {b:Nat} {d:Disk} {pre:List (List Str)} {cur:List Str} {tl:Str} (h:KLog b d pre cur tl):1≤b+pre.length+1∧b+pre.length+1≤1000000:=by have:=h.few;omega
theorem KLog.may {b:Nat} {d:Disk} {pre:List (List Str)} {cur:List Str} {tl:Str} (h:KLog b d pre cur tl):mayM ((b+pre.length+1:Nat):Int)=true:=by have:=h.few;rw [mayM_iff];omega
theorem KLog.out {b:Nat} {d:Disk} {pre:List (List Str)} {cur:List Str} {tl:Str} (h:KLog b d pre cur tl) (hh:has d.Files (nm (b+pre.length+1))=false):cur=[]∧tl=[]:=by
 have e:=h.now
 rw [dh hh] at e
 have e2:=congrArg List.length e
 have hl:=sealAll_len cur
 simp only [noFile,List.append_nil,List.length_nil,List.length_append] at e2
 exact ⟨List.length_eq_zero_iff.1 (by omega),List.length_eq_zero_iff.1 (by omega)⟩
theorem KLog.moved {b:Nat} {d d2:Disk} {pre:List (List Str)} {cur cur2:List Str} {tl tl2:Str} (h:KLog b d pre cur tl) (hd:DB d2) (h1: ∀n,cnt d2.Files n≤1) (h2:has d2.Files newN=false)
 (h3: ∀n,n≠nm (b+pre.length+1)→n≠newN→has d2.Files n=has d.Files n∧aj d2.Files n=aj d.Files n)
 (h4:(aj d2.Files (nm (b+pre.length+1))).Safe++(aj d2.Files (nm (b+pre.length+1))).Wait=aw cur2++tl2) (h5:cG (aj d2.Files (nm (b+pre.length+1)))≤65536) (h6:Torn tl2) (h7: ∀t∈cur2,t.length≤2048):KLog b d2 pre cur2 tl2:=by
 have hf:=h.few
 refine ⟨hd,hf,h1,h2,fun k hk hk2=> ?_,fun i s hi=> ?_,h4,h5,h6,h.small,h7⟩
 ·rw [(h3 _ (nm_ne (by omega) (by omega) (by omega)) (nameM_new _)).1];exact h.none k hk hk2
 ·have hlt:=lt_of_at hi
  have:=h3 (nm (b+i+1)) (nm_ne (by omega) (by omega) (by omega)) (nameM_new _)
  rw [this.1,this.2];exact h.old i s hi
theorem KLog.sync {b:Nat} {d:Disk} {pre:List (List Str)} {cur:List Str} {tl:Str} (h:KLog b d pre cur tl) (hoff:d.Off=false) (hh:has d.Files (nm (b+pre.length+1))=true):
 (bn d (nm (b+pre.length+1))).2=0∧KLog b (bn d (nm (b+pre.length+1))).1 pre cur tl∧(bn d (nm (b+pre.length+1))).1.Off=false∧has (bn d (nm (b+pre.length+1))).1.Files (nm (b+pre.length+1))=true∧
 aj (bn d (nm (b+pre.length+1))).1.Files (nm (b+pre.length+1))=⟨nm (b+pre.length+1),aw cur++tl,[]⟩:=by
 have hz:(bn d (nm (b+pre.length+1))).2=0:=by
  unfold bn;rw [if_neg (by simp [hoff]),if_neg (by simp [hh])]
 have ho:(bn d (nm (b+pre.length+1))).1.Off=false:=by
  unfold bn;rw [if_neg (by simp [hoff]),if_neg (by simp [hh])];exact hoff
 obtain ⟨g1,g2⟩:=sync_good hz
 rw [h.now] at g2
 have hs:=h.size
 have hn:=congrArg List.length h.now
 unfold cG at hs
 rw [List.length_append] at hn
 refine ⟨hz,h.moved (sync_db h.db _) (fun n=>by rw [sync_cnt];exact h.one n) ?_ (fun n hn _=>sync_apart hn) (by rw [g2,List.append_nil]) (by rw [g2];unfold cG;simp only [List.length_nil];omega) h.tail h.small2,ho,g1,g2⟩
 rw [(sync_apart (fun e=>nameM_new _ e.symm)).1];exact h.new
theorem KLog.next {b:Nat} {d:Disk} {pre:List (List Str)} {cur:List Str} (h:KLog b d pre cur []) (hh:has d.Files (nm (b+pre.length+1))=true) (hw:(aj d.Files (nm (b+pre.length+1))).Wait=[]) (hf:b+pre.length+2≤1000000):KLog b d (pre++[cur]) [] []∧aj d.Files (nm (b+(pre++[cur]).length+1))=noFile:=by
 have hl:b+(pre++[cur]).length+1=b+pre.length+2:=by simp;omega
 have hno:=h.none (b+pre.length+2) (by omega) (by omega)
 have hnf:=dh hno
 have hs:=h.size
 refine ⟨⟨h.db,by omega,h.one,h.new,fun k hk hk2=>h.none k (by omega) hk2,fun i s hi=> ?_,?_,?_,.inl rfl,fun s hs=> ?_,fun t ht=>by (cases ht)⟩,by rw [hl];exact hnf⟩
 ·by_cases hi2:i<pre.length
  ·rw [List.getElem?_append_left hi2] at hi;exact h.old i s hi
  ·have hlt:=lt_of_at hi
   have:i=pre.length:=by omega
   subst this
   rw [List.getElem?_append_right (Nat.le_refl _),Nat.sub_self] at hi
   simp only [List.getElem?_cons_zero] at hi
   injection hi with hi
   subst hi
   have e:=h.now
   rw [hw,List.append_nil,List.append_nil] at e
   unfold cG at hs
   rw [hw,e] at hs
   refine ⟨hh,?_,by simpa using hs⟩
   have e3:=(cJ hh).2.2.2
   generalize aj d.Files (nm (b+pre.length+1))=f at*
   obtain ⟨a,b,c⟩:=f
   simp only at e3 e hw
   rw [e3,e,hw]
 ·rw [hl,hnf];rfl
 ·rw [hl,hnf];decide
 ·rcases List.mem_append.1 hs with hs|hs
  ·exact h.small s hs
  ·simp at hs;subst hs;exact h.small2
theorem KLog.back {b:Nat} {d:Disk} {pre:List (List Str)} {cur:List Str} (h:KLog b d (pre++[cur]) [] []) (hh:has d.Files (nm (b+pre.length+2))=false):KLog b d pre cur []∧aj d.Files (nm (b+pre.length+1))=⟨nm (b+pre.length+1),aw cur,[]⟩:=by
 have hl:(pre++[cur]).length=pre.length+1:=by simp
 have hf:=h.few
 have ho:=h.old pre.length cur (by rw [List.getElem?_append_right (Nat.le_refl _),Nat.sub_self];rfl)
 refine ⟨⟨h.db,by omega,h.one,h.new,fun k hk hk2=> ?_,fun i s hi=> ?_,?_,?_,.inl rfl,fun s hs=>h.small s (List.mem_append_left _ hs),h.small cur (List.mem_append_right _ (List.mem_cons_self ..))⟩,ho.2.1⟩
 ·by_cases hk3:k=b+pre.length+2
  ·subst hk3;exact hh
  ·exact h.none k (by omega) hk2
 ·exact h.old i s (by rw [List.getElem?_append_left (lt_of_at hi)];exact hi)
 ·rw [ho.2.1]
 ·rw [ho.2.1];unfold cG;simp only [List.length_nil];omega
theorem KLog.append {b:Nat} {d:Disk} {pre:List (List Str)} {cur:List Str} (h:KLog b d pre cur []) (hoff:d.Off=false) {s:Str} (hs:s.length≤2048):
 ((av d (nm (b+pre.length+1)) (ck s)).1=d∧(av d (nm (b+pre.length+1)) (ck s)).2≠0∧(av d (nm (b+pre.length+1)) (ck s)).2≠6)∨
 ((aj (av d (nm (b+pre.length+1)) (ck s)).1.Files (nm (b+pre.length+1))).Safe=(aj d.Files (nm (b+pre.length+1))).Safe∧
   (((av d (nm (b+pre.length+1)) (ck s)).2=0∧KLog b (av d (nm (b+pre.length+1)) (ck s)).1 pre (cur++[s]) []∧(av d (nm (b+pre.length+1)) (ck s)).1.Off=false)∨
   ((av d (nm (b+pre.length+1)) (ck s)).2=6∧(∃tl,KLog b (av d (nm (b+pre.length+1)) (ck s)).1 pre cur tl)∧(av d (nm (b+pre.length+1)) (ck s)).1.Off=true))):=by
 have hsl:=sealM_len (s:=s) (by omega)
 rcases append_cases d (nm (b+pre.length+1)) (ck s) hoff with h1|⟨k,hk,g1,g2,g3,g4,g5⟩
 ·exact .inl h1
 refine .inr ⟨by rw [g2],?_⟩
 have hn:=h.now
 rw [List.append_nil] at hn
 have hdb:=append_db h.db (nm (b+pre.length+1)) (ck s) (by omega)
 have hone: ∀n,cnt (av d (nm (b+pre.length+1)) (ck s)).1.Files n≤1:=fun n=>by
  have:=(append_cnt d (nm (b+pre.length+1)) (ck s) n).1
  have:=h.one n
  omega
 have hnew:has (av d (nm (b+pre.length+1)) (ck s)).1.Files newN=false:=by
  rw [(append_apart (fun e=>nameM_new _ e.symm)).1];exact h.new
 have hsz:cG (aj (av d (nm (b+pre.length+1)) (ck s)).1.Files (nm (b+pre.length+1)))≤65536:=by
  rw [g2];unfold cG at g5⊢;simp only [List.length_append,List.length_take];omega
 by_cases hlt:k<(ck s).length
 ·rw [if_pos hlt] at g4
  rw [decide_eq_true hlt] at g3
  refine .inr ⟨g4,⟨(ck s).take k,h.moved hdb hone hnew (fun n hn _=>append_apart hn) ?_ hsz (.inr ⟨s,k,hs,hlt,rfl⟩) h.small2⟩,g3⟩
  rw [g2,←hn,List.append_assoc]
 ·rw [if_neg hlt] at g4
  rw [decide_eq_false hlt] at g3
  refine .inl ⟨g4,h.moved hdb hone hnew (fun n hn _=>append_apart hn) ?_ hsz (.inl rfl) (fun t ht=> ?_),g3⟩
  ·rw [g2,List.take_of_length_le (by omega),sealAll_append,←hn]
   simp only [aw,List.append_nil,List.append_assoc]
  ·rcases List.mem_append.1 ht with ht|ht
   ·exact h.small2 t ht
   ·simp at ht;subst ht;exact hs
theorem rename_gone {d:Disk} {a b:Str} (hab:a≠b) (ha:cnt d.Files a≤1) (hok:(bq d a b).2=0):has (bq d a b).1.Files a=false:=by
 unfold bq at hok⊢
 by_cases c1:d.Off=true
 ·rw [if_pos c1] at hok;cases hok
 rw [if_neg c1] at hok⊢
 by_cases c2:named b=false
 ·rw [if_pos c2] at hok;cases hok
 rw [if_neg c2] at hok⊢
 by_cases c3:has d.Files a=false
 ·rw [if_pos c3] at hok;cases hok
 rw [if_neg c3,if_neg hab] at hok⊢
 by_cases c5:(bx d).2=false
 ·rw [if_pos c5] at hok;cases hok
 rw [if_neg c5]
 simp only
 have hh:has (lostM (bx d).1 b).Files a=true:=by rw [lost_has hab,bj];simpa using c3
 have e:=set_cnt hh ⟨b,(aj d.Files a).Safe,(aj d.Files a).Wait⟩ a
 rw [lost_cnt,bj,if_pos rfl,if_neg (fun x=>hab x.symm)] at e
 exact has_cnt.2 (by omega)
theorem rename_done {d:Disk} {a b:Str} (hoff:d.Off=false) (hn:named b=true) (hh:has d.Files a=true) (hab:a≠b) (hf:d.Fuse= -1):(bq d a b).2=0∧(bq d a b).1.Off=false:=by
 have hp:(bx d).2=true:=by unfold bx;rw [if_neg (by omega)]
 have hp2:(bx d).1.Off=false:=by unfold bx;rw [if_neg (by omega)];exact hoff
 unfold bq
 rw [if_neg (by simp [hoff]),if_neg (by simp [hn]),if_neg (by simp [hh]),if_neg hab,if_neg (by simp [hp])]
 exact ⟨rfl,by rw [←hp2];exact (lost_fuse _ _).2⟩
theorem cutTail_zero (d:Disk) (k:Int):cutTail 0 d k=(d,0):=rfl
theorem tail_none {d:Disk} (n:Nat) {k:Int} (h:has d.Files (aC k)=false):cutTail n d k=(d,0):=by
 cases n with
 |zero=>rfl
 |succ n=>unfold cutTail;rw [if_pos h]
theorem KLog.cut {b:Nat} {d:Disk} {pre:List (List Str)} {cur:List Str} {tl:Str} (h:KLog b d pre cur tl) (hoff:d.Off=false) (hfuse:d.Fuse= -1):
 (dr d ((b+pre.length+1:Nat):Int) (aw cur)).2=5∨((dr d ((b+pre.length+1:Nat):Int) (aw cur)).2=0∧KLog b (dr d ((b+pre.length+1:Nat):Int) (aw cur)).1 pre cur []∧(dr d ((b+pre.length+1:Nat):Int) (aw cur)).1.Off=false∧
   has (dr d ((b+pre.length+1:Nat):Int) (aw cur)).1.Files (nm (b+pre.length+1))=true∧(aj (dr d ((b+pre.length+1:Nat):Int) (aw cur)).1.Files (nm (b+pre.length+1))).Wait=[]):=by
 have hsz:=h.size
 have hnow:=congrArg List.length h.now
 have hfew:=h.few
 have hseg:=named_seg h.seg
 have hne:newN≠nm (b+pre.length+1):=fun e=>nameM_new _ e.symm
 unfold cG at hsz
 rw [List.length_append,List.length_append] at hnow
 have hc:aE d newN=(d,0):=by unfold aE;rw [if_neg (by simp [h.new])]
 have h2:lay2 d newN (aw cur)=av d newN (aw cur):=by unfold lay2;rw [hc];rfl
 have ha:av d newN (aw cur)=(d,5)∨((av d newN (aw cur)).2=0∧(av d newN (aw cur)).1.Fuse= -1):=by
  have ht:torn d.Fuse (aw cur)=aw cur:=by unfold torn;rw [if_neg (by omega)]
  unfold av
  rw [if_neg (by simp [hoff]),if_neg (show ¬named newN=false by decide)]
  by_cases c3:(has d.Files newN=false∧64≤d.Files.length)∨d.Room<(aw cur).length
  ·rw [if_pos c3];exact .inl rfl
  rw [if_neg c3,if_neg (by rw [dh h.new];unfold cG noFile;simp only [List.length_nil];omega),ht]
  refine .inr ⟨by simp only;rw [if_neg (by omega)],?_⟩
  simp only
  rw [if_neg (by omega)];exact hfuse
 have hcut:=cut_db h.db ((b+pre.length+1:Nat):Int) (aw cur) (by omega)
 rcases ha with ha|⟨ha,hfz⟩
 ·refine .inl ?_
  unfold dr lay3
  rw [h2,ha]
  rfl
 obtain ⟨g1,g2,g3⟩:=append_good ha
 rw [dh h.new] at g2
 have hz:(bn (av d newN (aw cur)).1 newN).2=0:=by
  unfold bn;rw [if_neg (by simp [g3]),if_neg (by simp [g1])]
 obtain ⟨k1,k2⟩:=sync_good hz
 rw [g2] at k2
 have ko:(bn (av d newN (aw cur)).1 newN).1.Off=false:=by
  unfold bn;rw [if_neg (by simp [g3]),if_neg (by simp [g1])];exact g3
 have kf:(bn (av d newN (aw cur)).1 newN).1.Fuse= -1:=by
  unfold bn;rw [if_neg (by simp [g3]),if_neg (by simp [g1])];exact hfz
 have h3:lay3 d newN (aw cur)=bn (av d newN (aw cur)).1 newN:=by unfold lay3;rw [h2,if_neg (by simp [ha])]
 have h1: ∀n,cnt (bn (av d newN (aw cur)).1 newN).1.Files n≤1:=fun n=>by
  rw [sync_cnt]
  have:=(append_cnt d newN (aw cur) n).1
  have:=h.one n
  omega
 have hap: ∀n,n≠newN→has (bn (av d newN (aw cur)).1 newN).1.Files n=has d.Files n∧aj (bn (av d newN (aw cur)).1 newN).1.Files n=aj d.Files n:=fun n hn=>by
  rw [(sync_apart hn).1,(sync_apart hn).2,(append_apart hn).1,(append_apart hn).2];exact ⟨rfl,rfl⟩
 generalize bn (av d newN (aw cur)).1 newN=y at*
 obtain ⟨r1,r2⟩:=rename_done (b:=nm (b+pre.length+1)) ko hseg k1 hne kf
 obtain ⟨s1,s2⟩:=rename_good hne (h1 _) r1
 rw [k2] at s2
 simp only [noFile,List.nil_append,List.append_nil] at s2
 have s3:=rename_gone hne (h1 _) r1
 have hlast:cutTail (1000000 - ((b+pre.length+1:Nat):Int)).toNat (bq y.1 newN (nm (b+pre.length+1))).1 (((b+pre.length+1:Nat):Int)+1)=((bq y.1 newN (nm (b+pre.length+1))).1,0):=by
  by_cases hb:b+pre.length+2≤1000000
  ·refine tail_none _ ?_
   have hn:=h.none (b+pre.length+2) (by omega) hb
   have e:(((b+pre.length+1:Nat):Int)+1)=((b+pre.length+2:Nat):Int):=by omega
   rw [e,(rename_apart (nameM_new _) (nm_ne (by omega) (by omega) (by omega))).1,(hap _ (nameM_new _)).1]
   exact hn
  ·have e:(1000000 - ((b+pre.length+1:Nat):Int)).toNat=0:=Int.toNat_of_nonpos (by omega)
   rw [e,cutTail_zero]
 have hw:dr d ((b+pre.length+1:Nat):Int) (aw cur)=bq y.1 newN (nm (b+pre.length+1)):=by
  unfold dr
  rw [h3,if_neg (by simp [hz]),if_neg (show ¬(bq y.1 newN (aC ((b+pre.length+1:Nat):Int))).2≠0 from fun x=>x r1),hlast]
  exact Prod.ext rfl r1.symm
 rw [hw] at hcut⊢
 refine .inr ⟨r1,h.moved hcut (fun n=>rename_cnt _ _ _ _ (h1 _) (h1 n)) s3 (fun n hn hn2=> ?_) (by rw [s2]) (by rw [s2];unfold cG;simp only [List.length_nil];omega) (.inl rfl) h.small2,r2,s1,by rw [s2]⟩
 rw [(rename_apart hn2 hn).1,(rename_apart hn2 hn).2];exact hap n hn2
theorem crash_at (d:Disk) (keeps:List Int) (n:Str):has (crashM d keeps).Files n=has d.Files n∧(has d.Files n=true→ ∃k,aj (crashM d keeps).Files n=⟨n,(aj d.Files n).Safe++(aj d.Files n).Wait.take k,[]⟩):=by
 have hnames:(crashM d keeps).Files.map (·.Name)=d.Files.map (·.Name):=by
  unfold crashM
  simp only
  apply List.ext_getElem?
  intro i
  rw [List.getElem?_map,List.getElem?_mapIdx,List.getElem?_map]
  cases d.Files[i]? <;>rfl
 have hh:=has_names hnames n
 refine ⟨hh,fun h1=> ?_⟩
 have g:=(cJ (hh.trans h1)).2.2.1
 have g0:=(cJ h1).2.2.1
 have gn:=(cJ h1).2.2.2
 rw [idxI_names hnames] at g
 unfold crashM at g⊢
 simp only at g⊢
 rw [List.getElem?_mapIdx,g0] at g
 simp only [Option.map_some] at g
 injection g with g
 rw [←g]
 exact ⟨_,by unfold crashF;rw [gn]⟩
theorem KLog.crash {b:Nat} {d:Disk} {pre:List (List Str)} {cur:List Str} {tl:Str} (h:KLog b d pre cur tl) (keeps:List Int):
 ∃j r,j≤cur.length∧KLog b (crashM d keeps) pre (cur.take j) r∧(aj (crashM d keeps).Files (nm (b+pre.length+1))).Wait=[]∧ ∀i,i≤cur.length→(aw (cur.take i)).length≤(aj d.Files (nm (b+pre.length+1))).Safe.length→i≤j:=by
 have key: ∃m,(aj d.Files (nm (b+pre.length+1))).Safe.length≤m∧(aj (crashM d keeps).Files (nm (b+pre.length+1))).Safe=(aw cur++tl).take m∧(aj (crashM d keeps).Files (nm (b+pre.length+1))).Wait=[]:=by
  obtain ⟨c1,c2⟩:=crash_at d keeps (nm (b+pre.length+1))
  cases hh:has d.Files (nm (b+pre.length+1)) with
  |true=>
   obtain ⟨k,e⟩:=c2 hh
   refine ⟨(aj d.Files (nm (b+pre.length+1))).Safe.length+k,by omega,?_,by rw [e]⟩
   rw [e,←h.now,List.take_append,List.take_of_length_le (show (aj d.Files (nm (b+pre.length+1))).Safe.length≤(aj d.Files (nm (b+pre.length+1))).Safe.length+k by omega)]
   simp only
   rw [Nat.add_sub_cancel_left]
  |false=>
   obtain ⟨rfl,rfl⟩:=h.out hh
   rw [hh] at c1
   rw [dh hh,dh c1]
   exact ⟨0,by simp [noFile],by simp [noFile,aw],rfl⟩
 obtain ⟨m,hm,e1,e2⟩:=key
 obtain ⟨j,r,h1,h2,h3,h4⟩:=kept cur tl m h.small2 h.tail
 rw [h3] at e1
 have hnow:=h.now
 have hsz:=h.size
 unfold cG at hsz
 have hl:=congrArg List.length h.now
 have hl3:=congrArg List.length h3
 rw [List.length_append] at hl
 rw [List.length_take] at hl3
 refine ⟨j,r,h1,⟨crash_db h.db keeps,h.few,fun n=>by rw [crash_cnt];exact h.one n,by rw [(crash_at d keeps newN).1];exact h.new,fun k hk hk2=>by rw [(crash_at d keeps (nm k)).1];exact h.none k hk hk2,fun i s hi=> ?_,by rw [e1,e2,List.append_nil],?_,h2,h.small,fun t ht=>h.small2 t (List.mem_of_mem_take ht)⟩,e2,fun i hi hl=>h4 i hi (by omega)⟩
 ·obtain ⟨o1,o2,o3⟩:=h.old i s hi
  obtain ⟨c1,c2⟩:=crash_at d keeps (nm (b+i+1))
  obtain ⟨k,e⟩:=c2 o1
  rw [o2] at e
  refine ⟨c1.trans o1,?_,o3⟩
  rw [e];simp
 ·unfold cG
  rw [e1,e2]
  simp only [List.length_nil]
  omega
theorem read_has {d:Disk} {n:Str} (h:has d.Files n=true):readM d n=((aj d.Files n).Safe++(aj d.Files n).Wait,0):=by unfold readM;rw [if_pos h]
theorem read_not {d:Disk} {n:Str} (h:has d.Files n=false):readM d n=([],7):=by unfold readM;rw [if_neg (by simp [h])]
theorem rec_not {f:Int} {d:Disk} {n:Nat} {last seg:Int} {out:List Str} (h:has d.Files (aC seg)=false):recM d f n last seg out=(d,out,last,0):=by
 cases n with
 |zero=>rfl
 |succ n=>unfold recM;rw [read_not h,if_pos (by simp)]
theorem rec_one {f:Int} {d:Disk} {n k:Nat} {last:Int} {out l:List Str} {r:Str} (h:has d.Files (nm k)=true) (e:(aj d.Files (nm k)).Safe++(aj d.Files (nm k)).Wait=aw l++r) (hs: ∀t∈l,t.length≤2048) (hr:Torn r):
 recM d f (n+1) last (k:Int) out=if r=[] then recM d f n (k:Int) ((k+1:Nat):Int) (out++l) else
  if (dr d (k:Int) (aw l)).2≠0 then ((dr d (k:Int) (aw l)).1,[],f,(dr d (k:Int) (aw l)).2) else ((dr d (k:Int) (aw l)).1,out++l,(k:Int),0):=by
 have hrd:rdM d (k:Int)=aw l++r:=by unfold rdM;rw [read_has h,e]
 obtain ⟨s1,s2⟩:=scan_torn hs hr
 have ht:(aw l++r).take (aw l).length=aw l:=List.take_left ..
 conv=>lhs;unfold recM
 rw [hrd,s1,s2,ht,read_has h,if_neg (by simp)]
 by_cases hn:r=[]
 ·subst hn
  rw [if_neg (by simp),if_pos rfl]
  rfl
 ·have hp:0<r.length:=List.length_pos_iff.2 hn
  rw [if_pos (by rw [List.length_append];omega),if_neg hn]
theorem rec_pre {f:Int} {b:Nat} {d:Disk} {pre:List (List Str)} {cur:List Str} {tl:Str} (h:KLog b d pre cur tl): ∀(m i n:Nat) (last:Int) (out:List Str),i+m=pre.length→
 recM d f (n+m) last ((b+i+1:Nat):Int) out=recM d f n (if m=0 then last else ((b+pre.length:Nat):Int)) ((b+pre.length+1:Nat):Int) (out++(pre.drop i).flatten):=by
 intro m
 induction m with
 |zero=>
  intro i n last out hi
  have:i=pre.length:=by omega
  subst this
  rw [List.drop_length,List.flatten_nil,List.append_nil,if_pos rfl]
  rfl
 |succ m ih=>
  intro i n last out hi
  have hlt:i<pre.length:=by omega
  have hg:=List.getElem?_eq_getElem hlt
  obtain ⟨o1,o2,o3⟩:=h.old i _ hg
  rw [show n+(m+1)=(n+m)+1 by omega,rec_one (l:=pre[i]) (r:=[]) o1 (by rw [o2]) (h.small _ (List.getElem_mem hlt)) (.inl rfl),if_pos rfl,show b+i+1+1=b+(i+1)+1 by omega,ih (i+1) n _ _ (by omega),List.drop_eq_getElem_cons hlt,List.flatten_cons,List.append_assoc,if_neg (show ¬m+1=0 by omega)]
  by_cases hm:m=0
  ·rw [if_pos hm]
   have:((b+i+1:Nat):Int)=((b+pre.length:Nat):Int):=by omega
   rw [this]
  ·rw [if_neg hm]
theorem recover_log {b:Nat} {d:Disk} {pre:List (List Str)} {cur:List Str} {tl:Str} (h:KLog b d pre cur tl):cH d ((b+1:Nat):Int)=
 if has d.Files (nm (b+pre.length+1))=false then (d,pre.flatten,(if pre.length=0 then ((b+1:Nat):Int) else ((b+pre.length:Nat):Int)),0) else
 if tl=[] then (d,pre.flatten++cur,((b+pre.length+1:Nat):Int),0) else
 if (dr d ((b+pre.length+1:Nat):Int) (aw cur)).2≠0 then ((dr d ((b+pre.length+1:Nat):Int) (aw cur)).1,[],((b+1:Nat):Int),(dr d ((b+pre.length+1:Nat):Int) (aw cur)).2) else ((dr d ((b+pre.length+1:Nat):Int) (aw cur)).1,pre.flatten++cur,((b+pre.length+1:Nat):Int),0):=by
 have hf:=h.few
 have e0:((1000001:Int) - ((b+1:Nat):Int)).toNat=(999999 - b - pre.length+1)+pre.length:=by omega
 have hp:=rec_pre (f:=((b+1:Nat):Int)) h pre.length 0 (999999 - b - pre.length+1) ((b+1:Nat):Int) [] (by omega)
 have hm:mayM ((b+1:Nat):Int)=true:=by rw [mayM_iff];omega
 unfold cH
 rw [if_neg (by rw [hm];simp),e0]
 rw [List.drop_zero,List.nil_append,Nat.add_zero] at hp
 rw [hp]
 cases hh:has d.Files (nm (b+pre.length+1)) with
 |false=>rw [if_pos rfl,rec_not hh]
 |true=>
  rw [if_neg (show ¬(true=false) by simp),rec_one hh h.now h.small2 h.tail]
  by_cases ht:tl=[]
  ·rw [if_pos ht,if_pos ht]
   by_cases hb:b+pre.length+2≤1000000
   ·rw [rec_not (h.none _ (by omega) (by omega))]
   ·rw [show 999999 - b - pre.length=0 by omega];rfl
  ·rw [if_neg ht,if_neg ht]
theorem tail_apart {n:Str} (h2: ∀k:Int,n≠aC k) (m:Nat): ∀(d:Disk) (k:Int),has (cutTail m d k).1.Files n=has d.Files n∧aj (cutTail m d k).1.Files n=aj d.Files n:=by
 induction m with
 |zero=>intro d k;exact ⟨rfl,rfl⟩
 |succ m ih=>
  intro d k
  unfold cutTail
  split
  ·exact ⟨rfl,rfl⟩
  split
  ·exact delete_apart (h2 k)
  ·have h:=ih (aQ d (aC k)).1 (k+1)
   have g:=delete_apart (d:=d) (h2 k)
   exact ⟨h.1.trans g.1,h.2.trans g.2⟩
theorem tail_cnt (n:Str) (m:Nat): ∀(d:Disk) (k:Int),cnt (cutTail m d k).1.Files n≤cnt d.Files n:=by
 induction m with
 |zero=>intro d k;exact Nat.le_refl _
 |succ m ih=>
  intro d k
  have g:=(delete_cnt d (aC k) n).1
  unfold cutTail
  split
  ·exact Nat.le_refl _
  split
  ·exact g
  ·exact Nat.le_trans (ih _ _) g
theorem wcut_apart {d:Disk} {seg:Int} {s n:Str} (h1:n≠newN) (h2: ∀k:Int,n≠aC k):has (dr d seg s).1.Files n=has d.Files n∧aj (dr d seg s).1.Files n=aj d.Files n:=by
 have a:=lay3_apart (d:=d) (s:=s) h1
 have b:=rename_apart (d:=(lay3 d newN s).1) h1 (h2 seg)
 unfold dr
 split
 ·exact a
 split
 ·exact ⟨b.1.trans a.1,b.2.trans a.2⟩
 ·have c:=tail_apart h2 (1000000 - seg).toNat (bq (lay3 d newN s).1 newN (aC seg)).1 (seg+1)
  exact ⟨c.1.trans (b.1.trans a.1),c.2.trans (b.2.trans a.2)⟩
theorem wcut_nil {d:Disk} {seg:Int} {s:Str} (hs:([]:Str)≠aC seg) (h:has d.Files []=false):has (dr d seg s).1.Files []=false:=by
 have h1:([]:Str)≠newN:=by decide
 have a:=lay3_apart (d:=d) (s:=s) h1
 have b:=rename_apart (d:=(lay3 d newN s).1) h1 hs
 unfold dr
 split
 ·rw [a.1];exact h
 split
 ·rw [b.1,a.1];exact h
 ·have c:=tail_cnt [] (1000000 - seg).toNat (bq (lay3 d newN s).1 newN (aC seg)).1 (seg+1)
  have e:=has_cnt.1 (show has (bq (lay3 d newN s).1 newN (aC seg)).1.Files []=false by rw [b.1,a.1];exact h)
  exact has_cnt.2 (by omega)
theorem recover_lasts {b:Nat} {d:Disk} {pre:List (List Str)} {cur:List Str} {tl:Str} (h:KLog b d pre cur tl) (hoff:d.Off=false) (hfuse:d.Fuse= -1) (hw:(aj d.Files (nm (b+pre.length+1))).Wait=[]):
 (tl≠[]∧(cH d ((b+1:Nat):Int)).2.2.2=5)∨ ∃(d2:Disk) (pre2:List (List Str)) (cur2:List Str),cH d ((b+1:Nat):Int)=(d2,pre.flatten++cur,((b+pre2.length+1:Nat):Int),0)∧cH d2 ((b+1:Nat):Int)=(d2,pre.flatten++cur,((b+pre2.length+1:Nat):Int),0)∧
   KLog b d2 pre2 cur2 []∧pre2.flatten++cur2=pre.flatten++cur∧pre2.length≤pre.length∧d2.Off=false∧(aj d2.Files (nm (b+pre2.length+1))).Wait=[]∧(∀n,n≠newN→(∀k:Int,n≠aC k)→has d2.Files n=has d.Files n∧aj d2.Files n=aj d.Files n)∧(has d.Files []=false→has d2.Files []=false):=by
 have hr:=recover_log h
 cases hh:has d.Files (nm (b+pre.length+1)) with
 |false=>
  rw [if_pos hh] at hr
  obtain ⟨rfl,rfl⟩:=h.out hh
  refine .inr ?_
  rcases List.eq_nil_or_concat pre with rfl|⟨p,c,rfl⟩
  ·rw [List.append_nil]
   exact ⟨d,[],[],hr,hr,h,rfl,Nat.le_refl _,hoff,hw,fun _ _ _=>⟨rfl,rfl⟩,id⟩
  ·rw [List.concat_eq_append] at h hh hr hw⊢
   have hl:b+(p++[c]).length+1=b+p.length+2:=by simp;omega
   have hl2:b+(p++[c]).length=b+p.length+1:=by simp;omega
   rw [hl] at hh
   rw [hl2,if_neg (by simp)] at hr
   obtain ⟨b1,b2⟩:=h.back hh
   rw [List.append_nil]
   refine ⟨d,p,c,hr,hr,b1,by simp,by omega,hoff,by rw [b2],fun _ _ _=>⟨rfl,rfl⟩,id⟩
 |true=>
  rw [if_neg (by simp [hh])] at hr
  by_cases ht:tl=[]
  ·subst ht
   rw [if_pos rfl] at hr
   exact .inr ⟨d,pre,cur,hr,hr,h,rfl,Nat.le_refl _,hoff,hw,fun _ _ _=>⟨rfl,rfl⟩,id⟩
  ·rw [if_neg ht] at hr
   rcases h.cut hoff hfuse with hc|⟨c1,c2,c3,c4,c5⟩
   ·rw [if_pos (show (dr d ((b+pre.length+1:Nat):Int) (aw cur)).2≠0 from fun x=>by rw [hc] at x;cases x)] at hr
    exact .inl ⟨ht,by rw [hr];exact hc⟩
   ·rw [if_neg (show ¬(dr d ((b+pre.length+1:Nat):Int) (aw cur)).2≠0 from fun x=>x c1)] at hr
    have hr2:=recover_log c2
    rw [if_neg (show ¬has (dr d ((b+pre.length+1:Nat):Int) (aw cur)).1.Files (nm (b+pre.length+1))=false from fun x=>by rw [c4] at x;cases x),if_pos rfl] at hr2
    exact .inr ⟨_,pre,cur,hr,hr2,c2,rfl,Nat.le_refl _,c3,c5,fun n h1 h2=>wcut_apart h1 h2,fun hn=>wcut_nil (fun e=>by have hm:=h.may;unfold aC at e;rw [if_pos hm] at e;cases e) hn⟩
theorem nm_head (k:Nat):nm k=[]∨ ∃l,nm k=119::l:=by
 unfold nm aC;split
 ·exact .inr ⟨_,rfl⟩
 ·exact .inl rfl
theorem run_head (n:Int):br n=[]∨ ∃l,br n=114::l:=by
 unfold br;split
 ·exact .inr ⟨_,rfl⟩
 ·exact .inl rfl
theorem nm_m (k:Nat):([109]:Str)≠nm k:=by
 rcases nm_head k with h|⟨l,h⟩<;>rw [h]<;>simp
theorem run_m (n:Int):([109]:Str)≠br n:=by
 rcases run_head n with h|⟨l,h⟩<;>rw [h]<;>simp
theorem run_some {n:Nat} (h:1≤n∧n≤1000000):br (n:Int)=114::figS n:=by unfold br;rw [if_pos (by omega),Int.toNat_natCast]
theorem run_nm {n:Nat} (h:1≤n∧n≤1000000) (k:Nat):br (n:Int)≠nm k:=by
 rw [run_some h]
 rcases nm_head k with h|⟨l,h⟩<;>rw [h]<;>simp
theorem run_inj {a b:Nat} (ha:1≤a∧a≤1000000) (hb:1≤b∧b≤1000000) (h:a≠b):br (a:Int)≠br (b:Int):=by
 rw [run_some ha,run_some hb]
 intro e
 exact h (figS_inj (List.cons.inj e).2)
theorem run_new {n:Nat} (h:1≤n∧n≤1000000):br (n:Int)≠newN:=by rw [run_some h];simp [newN]
theorem fr_m (x:Str):([109]:Str)≠frN x:=by unfold frN;simp
theorem fr_nm (x:Str) (k:Nat):nm k≠frN x:=by
 unfold frN
 rcases nm_head k with h|⟨l,h⟩<;>rw [h]<;>simp
theorem fr_run (x:Str) (n:Int):br n≠frN x:=by
 unfold frN
 rcases run_head n with h|⟨l,h⟩<;>rw [h]<;>simp
theorem fr_new (x:Str):newN≠frN x:=by unfold frN newN;simp
theorem fr_nil (x:Str):([]:Str)≠frN x:=by unfold frN;simp
theorem nm_nil {k:Nat} (h:1≤k∧k≤1000000):([]:Str)≠nm k:=by
 unfold nm aC
 rw [if_pos (by rw [mayM_iff];omega)];simp
theorem run_nil {n:Nat} (h:1≤n∧n≤1000000):([]:Str)≠br (n:Int):=by rw [run_some h];simp
def Stays (d d2:Disk) (n:Str):Prop:=has d2.Files n=has d.Files n∧aj d2.Files n=aj d.Files n
theorem Stays.refl (d:Disk) (n:Str):Stays d d n:=⟨rfl,rfl⟩
theorem Stays.trans {a b c:Disk} {n:Str} (h:Stays a b n) (k:Stays b c n):Stays a c n:=⟨k.1.trans h.1,k.2.trans h.2⟩
structure KBase (d:Disk) (f r:Nat) (B:State):Prop where
 f1:1≤f∧f≤1000000
 r1:r≤1000000
 zero:r=0→f=1∧has d.Files [109]=false∧B=noState
 man:r≠0→has d.Files [109]=true∧aj d.Files [109]=⟨[109],manifM f r,[]⟩∧has d.Files (br r)=true∧aj d.Files (br r)=⟨br r,(bytesR (dE B)).1,[]⟩∧mayR (dE B)=true
 tok:TokOk B
theorem KBase.stays {d d2:Disk} {f r:Nat} {B:State} (h:KBase d f r B) (h1:Stays d d2 [109]) (h2:r≠0→Stays d d2 (br r)):KBase d2 f r B:=by
 refine ⟨h.f1,h.r1,fun h0=> ?_,fun h0=> ?_,h.tok⟩
 ·rw [h1.1];exact h.zero h0
 ·obtain ⟨a1,a2,a3,a4,a5⟩:=h.man h0
  rw [h1.1,h1.2,(h2 h0).1,(h2 h0).2]
  exact ⟨a1,a2,a3,a4,a5⟩
theorem crash_dryF {d:Disk} {n s:Str} (keeps:List Int) (h1:has d.Files n=true) (h2:aj d.Files n=⟨n,s,[]⟩):Stays d (crashM d keeps) n:=by
 obtain ⟨c1,c2⟩:=crash_at d keeps n
 obtain ⟨k,e⟩:=c2 h1
 rw [h2] at e
 exact ⟨c1,by rw [e,h2];simp⟩
theorem crash_none {d:Disk} {n:Str} (keeps:List Int) (h:has d.Files n=false):Stays d (crashM d keeps) n:=by
 have c1:=(crash_at d keeps n).1
 exact ⟨c1,by rw [dh h,dh (c1.trans h)]⟩
theorem KBase.crash {d:Disk} {f r:Nat} {B:State} (h:KBase d f r B) (keeps:List Int):KBase (crashM d keeps) f r B:=by
 by_cases h0:r=0
 ·exact h.stays (crash_none keeps (h.zero h0).2.1) (fun x=>absurd h0 x)
 ·obtain ⟨a1,a2,a3,a4,a5⟩:=h.man h0
  exact h.stays (crash_dryF keeps a1 a2) (fun _=>crash_dryF keeps a3 a4)
theorem seal_le (t:Str):t.length≤(ck t).length:=by unfold ck bM;simp only [List.length_append];omega
theorem KBase.open {d:Disk} {f r:Nat} {B:State} (h:KBase d f r B) (hdb:DB d):manOf d=((f:Int),(r:Int),0)∧basedM d (r:Int)=(B,0):=by
 have hf:=h.f1
 have hr:=h.r1
 by_cases h0:r=0
 ·obtain ⟨a1,a2,a3⟩:=h.zero h0
  subst a1 h0 a3
  unfold manOf basedM
  rw [read_not a2]
  exact ⟨rfl,rfl⟩
 ·obtain ⟨a1,a2,a3,a4,a5⟩:=h.man h0
  have hsz:=db_at hdb (br r)
  constructor
  ·unfold manOf
   rw [read_has a1,a2,if_pos rfl]
   simp only [List.append_nil]
   exact takeMan_manif (by omega) (by omega)
  ·unfold basedM loadM
   rw [if_neg (by omega),read_has a3,a4]
   rw [a4] at hsz
   unfold cG at hsz
   have hb:(bytesR (dE B)).1=ck (numS (dE B).length++pBytes (dE B)):=by unfold bytesR;rw [if_pos a5]
   have hl:=seal_le (numS (dE B).length++pBytes (dE B))
   rw [←hb] at hl
   have ht:=takeR_bytes a5 (by simp only [List.length_nil] at hsz;omega)
   simp only [List.append_nil,ne_eq,not_true_eq_false,if_false]
   rw [ht]
   simp only [ne_eq,not_true_eq_false,if_false]
   exact back_pairs h.tok
structure cO (d:Disk) (b r:Nat) (pre:List (List Str)) (cur:List Str) (tl:Str) (S:State):Prop where
 base: ∃B,KBase d (b+1) r B∧recsM (pre.flatten++cur) B=some S
 log:KLog b d pre cur tl
 safe:(aw cur).length≤(aj d.Files (nm (b+pre.length+1))).Safe.length
 tok:TokOk S
 nil:has d.Files []=false
theorem recs_app (l m:List Str): ∀s:State,recsM (l++m) s=(recsM l s).bind fun t=>recsM m t:=by
 induction l with
 |nil=>intro s;rfl
 |cons r l ih=>
  intro s
  show (if (takeBt r).2≠0 then none else recsM (l++m) (doB s (takeBt r).1).1)=(if (takeBt r).2≠0 then none else recsM l (doB s (takeBt r).1).1).bind fun t=>recsM m t
  split
  ·rfl
  ·exact ih _
theorem recs_one {s:State} {b:Batch} (h:mayB b=true):recsM [(df b).1] s=some (doB s b).1:=by
 unfold recsM
 rw [takeB_bytes h]
 rfl
theorem cO.append {d:Disk} {b r:Nat} {pre:List (List Str)} {cur:List Str} {S:State} (h:cO d b r pre cur [] S) (hoff:d.Off=false) {s:Str} (hs:s.length≤2048) {S2:State} (hS:recsM [s] S=some S2) (ht:TokOk S2):
 let p:=av d (nm (b+pre.length+1)) (ck s)
 (p.2=0→p.1.Off=false∧has p.1.Files (nm (b+pre.length+1))=true∧KLog b p.1 pre (cur++[s]) []∧(∃B,KBase p.1 (b+1) r B∧recsM (pre.flatten++(cur++[s])) B=some S2)∧has p.1.Files []=false)∧
 (p.2≠0→ ∃tl,cO p.1 b r pre cur tl S∧(p.2≠6→tl=[]∧p.1.Off=false)):=by
 intro p
 have hap: ∀n,n≠nm (b+pre.length+1)→Stays d p.1 n:=fun n hn=>append_apart hn
 have hsg:=h.log.seg
 have hnil:has p.1.Files []=false:=by rw [(hap _ (nm_nil hsg)).1];exact h.nil
 obtain ⟨B,hB,hr⟩:=h.base
 have hB2:KBase p.1 (b+1) r B:=hB.stays (hap _ (nm_m _)) (fun h0=>hap _ (run_nm (by have:=hB.r1;omega) _))
 rcases h.log.append hoff hs with ⟨a1,a2,a3⟩|⟨a0,⟨a1,a2,a3⟩|⟨a1,⟨tl,a2⟩,a3⟩⟩
 ·exact ⟨fun h0=>absurd h0 a2,fun _=>⟨[],by rw [show p.1=d from a1];exact h,fun _=>⟨rfl,by rw [show p.1=d from a1];exact hoff⟩⟩⟩
 ·refine ⟨fun _=>⟨a3,(append_good a1).1,a2,⟨B,hB2,?_⟩,hnil⟩,fun h0=>absurd a1 h0⟩
  rw [←List.append_assoc,recs_app,hr]
  exact hS
 ·exact ⟨fun h0=>absurd (a1.symm.trans h0) (by decide),fun _=>⟨tl,⟨⟨B,hB2,hr⟩,a2,by rw [a0];exact h.safe,h.tok,hnil⟩,fun h6=>absurd a1 h6⟩⟩
theorem cO.dry {d:Disk} {b r:Nat} {pre:List (List Str)} {cur:List Str} {S:State} (h:cO d b r pre cur [] S):(aj d.Files (nm (b+pre.length+1))).Wait=[]:=by
 have e:=congrArg List.length h.log.now
 have:=h.safe
 rw [List.length_append,List.append_nil] at e
 exact List.length_eq_zero_iff.1 (by omega)
theorem cO.synced {d:Disk} {b r:Nat} {pre:List (List Str)} {cur:List Str} {S:State} (hl:KLog b d pre cur []) (hB: ∃B,KBase d (b+1) r B∧recsM (pre.flatten++cur) B=some S) (ht:TokOk S) (hn:has d.Files []=false) (hoff:d.Off=false) (hh:has d.Files (nm (b+pre.length+1))=true):
 (bn d (nm (b+pre.length+1))).2=0∧cO (bn d (nm (b+pre.length+1))).1 b r pre cur [] S∧(bn d (nm (b+pre.length+1))).1.Off=false∧has (bn d (nm (b+pre.length+1))).1.Files (nm (b+pre.length+1))=true:=by
 obtain ⟨y1,y2,y3,y4,y5⟩:=hl.sync hoff hh
 obtain ⟨B,hB,hr⟩:=hB
 have hap: ∀n,n≠nm (b+pre.length+1)→Stays d (bn d (nm (b+pre.length+1))).1 n:=fun n hn=>sync_apart hn
 refine ⟨y1,⟨⟨B,hB.stays (hap _ (nm_m _)) (fun h0=>hap _ (run_nm (by have:=hB.r1;omega) _)),hr⟩,y2,by rw [y5];simp,ht,?_⟩,y3,y4⟩
 rw [(hap _ (nm_nil hl.seg)).1];exact hn
theorem cO.next {d:Disk} {b r:Nat} {pre:List (List Str)} {cur:List Str} {S:State} (h:cO d b r pre cur [] S) (hh:has d.Files (nm (b+pre.length+1))=true) (hf:b+pre.length+2≤1000000):cO d b r (pre++[cur]) [] [] S:=by
 have hn:=h.log.next hh h.dry hf
 obtain ⟨B,hB,hr⟩:=h.base
 exact ⟨⟨B,hB,by simpa using hr⟩,hn.1,by simp [aw],h.tok,h.nil⟩
theorem cO.put {d:Disk} {b r:Nat} {pre:List (List Str)} {cur:List Str} {S:State} (h:cO d b r pre cur [] S) (hoff:d.Off=false) (s:Str) {S2:State} (hS:recsM [s] S=some S2) (ht:TokOk S2):
 let p:=wputM d ((b+pre.length+1:Nat):Int) s
 (p.2.2=0→(wsyncM p.1 p.2.1).2=0∧ ∃pre2 cur2,cO (wsyncM p.1 p.2.1).1 b r pre2 cur2 [] S2∧p.2.1=((b+pre2.length+1:Nat):Int)∧(wsyncM p.1 p.2.1).1.Off=false)∧
 (p.2.2≠0→ ∃pre2 cur2 tl,cO p.1 b r pre2 cur2 tl S∧(p.2.2≠6→tl=[]∧p.2.1=((b+pre2.length+1:Nat):Int)∧p.1.Off=false)):=by
 have hmay:=h.log.may
 have hsg:=h.log.seg
 have app: ∀ {d:Disk} {pre:List (List Str)} {cur:List Str},cO d b r pre cur [] S→d.Off=false→s.length≤2048→
  let p:=av d (nm (b+pre.length+1)) (ck s)
  (p.2=0→(wsyncM p.1 ((b+pre.length+1:Nat):Int)).2=0∧ ∃pre2 cur2,cO (wsyncM p.1 ((b+pre.length+1:Nat):Int)).1 b r pre2 cur2 [] S2∧b+pre.length+1=b+pre2.length+1∧(wsyncM p.1 ((b+pre.length+1:Nat):Int)).1.Off=false)∧
  (p.2≠0→ ∃pre2 cur2 tl,cO p.1 b r pre2 cur2 tl S∧(p.2≠6→tl=[]∧b+pre.length+1=b+pre2.length+1∧p.1.Off=false)):=by
  intro d pre cur h hoff hs p
  obtain ⟨g1,g2⟩:=h.append hoff hs hS ht
  constructor
  ·intro h0
   obtain ⟨k1,k2,k3,k4,k5⟩:=g1 h0
   obtain ⟨s1,s2,s3,s4⟩:=cO.synced k3 k4 ht k5 k1 k2
   have e:wsyncM p.1 ((b+pre.length+1:Nat):Int)=bn p.1 (nm (b+pre.length+1)):=by unfold wsyncM;rw [if_neg (by simp;exact k2)]
   rw [e]
   exact ⟨s1,pre,cur++[s],s2,rfl,s3⟩
  ·intro h0
   obtain ⟨tl,k1,k2⟩:=g2 h0
   exact ⟨pre,cur,tl,k1,fun h6=>⟨(k2 h6).1,rfl,(k2 h6).2⟩⟩
 intro p
 have hp:p=wputM d ((b+pre.length+1:Nat):Int) s:=rfl
 clear_value p
 unfold wputM at hp
 rw [if_neg (by rw [hmay];simp)] at hp
 by_cases hr:2048<s.length
 ·rw [if_pos hr] at hp
  subst hp
  exact ⟨fun h0=>absurd h0 (by simp),fun _=>⟨pre,cur,[],h,fun _=>⟨rfl,rfl,hoff⟩⟩⟩
 rw [if_neg hr] at hp
 have hs:s.length≤2048:=by omega
 by_cases h9:256≤(readM d (aC ((b+pre.length+1:Nat):Int))).1.length
 ·rw [if_pos h9] at hp
  have hh:has d.Files (nm (b+pre.length+1))=true:=by
   cases hx:has d.Files (nm (b+pre.length+1)) with
   |true=>rfl
   |false=>rw [read_not hx] at h9;simp at h9
  obtain ⟨s1,s2,s3,s4⟩:=cO.synced h.log h.base h.tok h.nil hoff hh
  rw [if_neg (show ¬(bn d (aC ((b+pre.length+1:Nat):Int))).2≠0 from fun x=>x s1)] at hp
  by_cases hm2:mayM (((b+pre.length+1:Nat):Int)+1)=false
  ·rw [if_pos hm2] at hp
   subst hp
   exact ⟨fun h0=>absurd h0 (by simp),fun _=>⟨pre,cur,[],s2,fun _=>⟨rfl,rfl,s3⟩⟩⟩
  ·rw [if_neg hm2] at hp
   have hm3:=mayM_iff.1 (show mayM (((b+pre.length+1:Nat):Int)+1)=true by simpa using hm2)
   have hn:=s2.next s4 (by omega)
   have hl:b+(pre++[cur]).length+1=b+pre.length+2:=by simp;omega
   have e:(((b+pre.length+1:Nat):Int)+1)=((b+(pre++[cur]).length+1:Nat):Int):=by rw [hl];omega
   rw [e] at hp
   subst hp
   obtain ⟨g1,g2⟩:=app hn s3 hs
   constructor
   ·intro h0
    obtain ⟨k1,p2,c2,k2,k3,k4⟩:=g1 h0
    exact ⟨k1,p2,c2,k2,by simp only;rw [k3],k4⟩
   ·intro h0
    obtain ⟨p2,c2,tl,k1,k2⟩:=g2 h0
    exact ⟨p2,c2,tl,k1,fun h6=>⟨(k2 h6).1,by simp only;rw [(k2 h6).2.1],(k2 h6).2.2⟩⟩
 ·rw [if_neg h9] at hp
  subst hp
  obtain ⟨g1,g2⟩:=app h hoff hs
  constructor
  ·intro h0
   obtain ⟨k1,p2,c2,k2,k3,k4⟩:=g1 h0
   exact ⟨k1,p2,c2,k2,by simp only;rw [k3],k4⟩
  ·intro h0
   obtain ⟨p2,c2,tl,k1,k2⟩:=g2 h0
   exact ⟨p2,c2,tl,k1,fun h6=>⟨(k2 h6).1,by simp only;rw [(k2 h6).2.1],(k2 h6).2.2⟩⟩
theorem cO.crash {d:Disk} {b r:Nat} {pre:List (List Str)} {cur:List Str} {tl:Str} {S:State} (h:cO d b r pre cur tl S) (keeps:List Int):
 ∃tl2,cO (crashM d keeps) b r pre cur tl2 S∧(tl=[]→tl2=[])∧(aj (crashM d keeps).Files (nm (b+pre.length+1))).Wait=[]:=by
 obtain ⟨j,q,h1,h2,h3,h4⟩:=h.log.crash keeps
 have hj:j=cur.length:=by
  have:=h4 cur.length (Nat.le_refl _) (by rw [List.take_length];exact h.safe)
  omega
 subst hj
 rw [List.take_length] at h2
 obtain ⟨B,hB,hr⟩:=h.base
 refine ⟨q,⟨⟨B,hB.crash keeps,hr⟩,h2,?_,h.tok,by rw [(crash_at d keeps []).1];exact h.nil⟩,fun ht=> ?_,h3⟩
 ·have e:=congrArg List.length h2.now
  rw [h3,List.append_nil,List.length_append] at e
  omega
 ·subst ht
  have e:=h2.now
  rw [h3,List.append_nil] at e
  cases hh:has d.Files (nm (b+pre.length+1)) with
  |true=>
   obtain ⟨k,c2⟩:=(crash_at d keeps (nm (b+pre.length+1))).2 hh
   have e0:=h.log.now
   rw [h.dry,List.append_nil,List.append_nil] at e0
   rw [c2,h.dry,e0] at e
   simpa using e.symm
  |false=>
   obtain ⟨rfl,_⟩:=h.log.out hh
   have c1:=(crash_at d keeps (nm (b+pre.length+1))).1
   rw [hh] at c1
   rw [dh c1] at e
   simpa [noFile,aw] using e.symm
theorem nmI (k:Int):aC k=[]∨ ∃l,aC k=119::l:=by
 unfold aC;split
 ·exact .inr ⟨_,rfl⟩
 ·exact .inl rfl
theorem m_nmI (k:Int):([109]:Str)≠aC k:=by
 rcases nmI k with h|⟨l,h⟩<;>rw [h]<;>simp
theorem run_nmI {n:Nat} (h:1≤n∧n≤1000000) (k:Int):br (n:Int)≠aC k:=by
 rw [run_some h]
 rcases nmI k with h|⟨l,h⟩<;>rw [h]<;>simp
theorem cO.open {d:Disk} {b r:Nat} {pre:List (List Str)} {cur:List Str} {tl:Str} {S:State} (h:cO d b r pre cur tl S) (hoff:d.Off=false) (hfuse:d.Fuse= -1) (hw:(aj d.Files (nm (b+pre.length+1))).Wait=[]):
 (tl≠[]∧(openK d).2=5)∨ ∃(d2:Disk) (pre2:List (List Str)) (cur2:List Str),openK d=(⟨d2,((b+1:Nat):Int),((b+pre2.length+1:Nat):Int),(r:Int),S,false⟩,0)∧
   openK d2=(⟨d2,((b+1:Nat):Int),((b+pre2.length+1:Nat):Int),(r:Int),S,false⟩,0)∧cO d2 b r pre2 cur2 [] S∧d2.Off=false:=by
 obtain ⟨B,hB,hr⟩:=h.base
 have op: ∀(x y:Disk) (l:List Str) (seg:Int),KBase x (b+1) r B→DB x→recsM l B=some S→cH x ((b+1:Nat):Int)=(y,l,seg,0)→openK x=(⟨y,((b+1:Nat):Int),seg,(r:Int),S,false⟩,0):=by
  intro x y l seg kx dx hl hrec
  obtain ⟨o1,o2⟩:=kx.open dx
  unfold openK
  simp only [o1,o2,hrec,hl]
  simp
 rcases recover_lasts h.log hoff hfuse hw with ⟨ht,h5⟩|⟨d2,pre2,cur2,r1,r2,r3,r4,r5,r6,r7,r8,r9⟩
 ·refine .inl ⟨ht,?_⟩
  obtain ⟨o1,o2⟩:=hB.open h.log.db
  unfold openK
  simp only [o1,o2,h5]
  simp
 ·have hB2:KBase d2 (b+1) r B:=hB.stays (r8 _ (by decide) m_nmI) (fun h0=>r8 _ (run_new (by have:=hB.r1;omega)) (run_nmI (by have:=hB.r1;omega)))
  refine .inr ⟨d2,pre2,cur2,op d d2 _ _ hB h.log.db hr r1,op d2 d2 _ _ hB2 r3.db hr r2,⟨⟨B,hB2,by rw [r4];exact hr⟩,r3,?_,h.tok,r9 h.nil⟩,r6⟩
  have e:=congrArg List.length r3.now
  rw [r7,List.append_nil,List.append_nil] at e
  omega
structure Pw (p:Disk×Int):Prop where
 eq:p.1.Off=decide (p.2=6)
theorem Pw.off {p:Disk×Int} (h:Pw p) (h6:p.2≠6):p.1.Off=false:=by rw [h.eq,decide_eq_false h6]
theorem pw_append {d:Disk} (name s:Str) (hoff:d.Off=false):Pw (av d name s):=by
 rcases append_cases d name s hoff with ⟨h1,h2,h3⟩|⟨k,_,_,_,h3,h4,_⟩
 ·exact ⟨by rw [h1,hoff,decide_eq_false h3]⟩
 ·refine ⟨?_⟩
  rw [h3,h4]
  by_cases c:k<s.length
  ·rw [if_pos c,decide_eq_true c];rfl
  ·rw [if_neg c,decide_eq_false c];rfl
theorem pw_sync {d:Disk} (name:Str) (hoff:d.Off=false):Pw (bn d name):=by
 unfold bn
 rw [if_neg (by simp [hoff])]
 split
 ·exact ⟨by simp [hoff]⟩
 ·exact ⟨by simp [hoff]⟩
theorem pw_delete {d:Disk} (name:Str) (hoff:d.Off=false):Pw (aQ d name):=by
 unfold aQ
 rw [if_neg (by simp [hoff])]
 split
 ·exact ⟨by simp [hoff]⟩
 ·unfold bx
  by_cases hf:d.Fuse=0
  ·rw [if_pos hf];exact ⟨by simp⟩
  ·rw [if_neg hf];exact ⟨by simp [lessM,hoff]⟩
theorem pw_rename {d:Disk} (a c:Str) (hoff:d.Off=false):Pw (bq d a c):=by
 unfold bq
 rw [if_neg (by simp [hoff])]
 split
 ·exact ⟨by simp [hoff]⟩
 split
 ·exact ⟨by simp [hoff]⟩
 split
 ·exact ⟨by simp [hoff]⟩
 ·unfold bx
  by_cases hf:d.Fuse=0
  ·rw [if_pos hf];exact ⟨by simp⟩
  ·rw [if_neg hf]
   refine ⟨?_⟩
   simp only [Bool.true_eq_false,if_false]
   rw [(lost_fuse _ _).2]
   simp [hoff]
theorem pw_clear {d:Disk} (fr:Str) (hoff:d.Off=false):Pw (aE d fr):=by
 unfold aE;split
 ·exact pw_delete fr hoff
 ·exact ⟨by simp [hoff]⟩
theorem pw_gone {d:Disk} (n:Str) (hoff:d.Off=false):Pw (goneK d n):=by
 unfold goneK;split
 ·exact pw_delete n hoff
 ·exact ⟨by simp [hoff]⟩
theorem pw_lay {d:Disk} (name s:Str) (hoff:d.Off=false):Pw (layM d name s):=by
 have h1:=pw_clear (frN name) hoff
 have h2:Pw (lay2 d (frN name) s):=by
  unfold lay2;split
  ·exact h1
  ·rename_i c;exact pw_append _ _ (h1.off (by have:(aE d (frN name)).2=0:=by simpa using c
                                              rw [this];decide))
 have h3:Pw (lay3 d (frN name) s):=by
  unfold lay3;split
  ·exact h2
  ·rename_i c;exact pw_sync _ (h2.off (by have:(lay2 d (frN name) s).2=0:=by simpa using c
                                          rw [this];decide))
 unfold layM;split
 ·exact h3
 ·rename_i c;exact pw_rename _ _ (h3.off (by have:(lay3 d (frN name) s).2=0:=by simpa using c
                                             rw [this];decide))
theorem pw_drop (to:Int) (m:Nat): ∀ {d:Disk} (hoff:d.Off=false) (k:Int),Pw (dropT to m d k):=by
 induction m with
 |zero=>intro d hoff k;exact ⟨by simp [dropT,hoff]⟩
 |succ m ih=>
  intro d hoff k
  have h:=pw_delete (aC k) hoff
  unfold dropT
  split
  ·exact ⟨by simp [hoff]⟩
  split
  ·exact ih hoff _
  split
  ·exact h
  ·rename_i c;exact ih (h.off (by have:(aQ d (aC k)).2=0:=by simpa using c
                                  rw [this];decide)) _
theorem KLog.stays {d d2:Disk} {b:Nat} {pre:List (List Str)} {cur:List Str} {tl:Str} (h:KLog b d pre cur tl) (hd:DB d2) (h1: ∀n,cnt d2.Files n≤1) (h2:Stays d d2 newN) (h3: ∀k,b<k→k≤1000000→Stays d d2 (nm k)):KLog b d2 pre cur tl:=by
 have hf:=h.few
 have hc:=h3 (b+pre.length+1) (by omega) (by omega)
 refine ⟨hd,hf,h1,by rw [h2.1];exact h.new,fun k hk hk2=> ?_,fun i s hi=> ?_,by rw [hc.2];exact h.now,by rw [hc.2];exact h.size,h.tail,h.small,h.small2⟩
 ·rw [(h3 k (by omega) hk2).1];exact h.none k hk hk2
 ·have hlt:=lt_of_at hi
  have:=h3 (b+i+1) (by omega) (by omega)
  rw [this.1,this.2];exact h.old i s hi
theorem cO.stays {d d2:Disk} {b r:Nat} {pre:List (List Str)} {cur:List Str} {tl:Str} {S:State} (h:cO d b r pre cur tl S) (hd:DB d2) (h1: ∀n,cnt d2.Files n≤1) (h2:Stays d d2 newN) (h3: ∀k,b<k→k≤1000000→Stays d d2 (nm k))
 (h4:Stays d d2 [109]) (h5:r≠0→Stays d d2 (br (r:Int))) (h6:has d2.Files []=false):cO d2 b r pre cur tl S:=by
 obtain ⟨B,hB,hr⟩:=h.base
 have hf:=h.log.few
 exact ⟨⟨B,hB.stays h4 h5,hr⟩,h.log.stays hd h1 h2 h3,by rw [(h3 (b+pre.length+1) (by omega) (by omega)).2];exact h.safe,h.tok,h6⟩
theorem dropT_apart2 (to:Int) (n:Str) (m:Nat): ∀(d:Disk) (k:Int),(∀j,k≤j→j<to→aC j≠n)→Stays d (dropT to m d k).1 n:=by
 induction m with
 |zero=>intro d k h;exact ⟨rfl,rfl⟩
 |succ m ih=>
  intro d k h
  unfold dropT
  split
  ·exact ⟨rfl,rfl⟩
  ·rename_i hk
   have hne:n≠aC k:=fun e=>h k (by omega) (by omega) e.symm
   have hd:Stays d (aQ d (aC k)).1 n:=delete_apart hne
   split
   ·exact ih d (k+1) (fun j h1 h2=>h j (by omega) h2)
   ·split
    ·exact hd
    ·exact hd.trans (ih (aQ d (aC k)).1 (k+1) (fun j h1 h2=>h j (by omega) h2))
theorem dropT_cnt (to:Int) (n:Str) (m:Nat): ∀(d:Disk) (k:Int),cnt (dropT to m d k).1.Files n≤cnt d.Files n:=by
 induction m with
 |zero=>intro d k;exact Nat.le_refl _
 |succ m ih=>
  intro d k
  have g:=(delete_cnt d (aC k) n).1
  unfold dropT
  split
  ·exact Nat.le_refl _
  split
  ·exact ih _ _
  split
  ·exact g
  ·exact Nat.le_trans (ih _ _) g
theorem dropT_gone (to:Int) (m:Nat): ∀(d:Disk) (k:Int),(∀n,cnt d.Files n≤1)→to≤k+m→(dropT to m d k).2=0→ ∀j,k≤j→j<to→has (dropT to m d k).1.Files (aC j)=false:=by
 induction m with
 |zero=>intro d k h1 h2 h3 j h4 h5;omega
 |succ m ih=>
  intro d k h1 h2 h3 j h4 h5
  unfold dropT at h3⊢
  rw [if_neg (by omega)] at h3⊢
  by_cases c:has d.Files (aC k)=false
  ·rw [if_pos c] at h3⊢
   by_cases hj:j=k
   ·subst hj
    have:=dropT_cnt to (aC j) m d (j+1)
    rw [has_cnt.1 c] at this
    exact has_cnt.2 (by omega)
   ·exact ih d (k+1) h1 (by omega) h3 j (by omega) h5
  ·rw [if_neg c] at h3⊢
   by_cases c2:(aQ d (aC k)).2≠0
   ·rw [if_pos c2] at h3;exact absurd h3 c2
   ·rw [if_neg c2] at h3⊢
    have hd:=delete_cnt d (aC k)
    have h1': ∀n,cnt (aQ d (aC k)).1.Files n≤1:=fun n=>Nat.le_trans (hd n).1 (h1 n)
    by_cases hj:j=k
    ·subst hj
     have e:=(hd (aC j)).2 (by simpa using c2) rfl
     have:=dropT_cnt to (aC j) m (aQ d (aC j)).1 (j+1)
     have:=h1 (aC j)
     exact has_cnt.2 (by omega)
    ·exact ih _ (k+1) h1' (by omega) h3 j (by omega) h5
theorem cO.old {d:Disk} {b r:Nat} {from_:Nat} {S:State} {pre:List (List Str)} {cur:List Str} (h:cO d b (r+1) pre cur [] S) (hoff:d.Off=false) (hr:r+1≤1000000) (hf:1≤from_) (hb:b+1≤1000000):
 let p:=oldK d (r:Int) (from_:Int) ((b+1:Nat):Int)
 cO p.1 b (r+1) pre cur [] S∧Pw p∧(p.2=0→has p.1.Files (br (r:Int))=false∧ ∀j:Int,(from_:Int)≤j→j<((b+1:Nat):Int)→has p.1.Files (aC j)=false):=by
 intro p
 have hgs: ∀n,n≠br (r:Int)→Stays d (goneK d (br (r:Int))).1 n:=by
  intro n hn
  unfold goneK;split
  ·exact delete_apart hn
  ·exact Stays.refl _ _
 have hgc: ∀n,cnt (goneK d (br (r:Int))).1.Files n≤cnt d.Files n:=by
  intro n
  unfold goneK;split
  ·exact (delete_cnt d _ n).1
  ·exact Nat.le_refl _
 have hr0:r=0→br (r:Int)=[]:=by
  intro h0;subst h0;rfl
 have hnil:has (goneK d (br (r:Int))).1.Files []=false:=has_cnt.2 (by have:=hgc [];rw [has_cnt.1 h.nil] at this;omega)
 have hrr: ∀n:Str,n≠[]→(∀l,n≠114::l)→n≠br (r:Int):=by
  intro n h1 h2 e
  rcases run_head (r:Int) with g|⟨l,g⟩
  ·exact h1 (e.trans g)
  ·exact h2 l (e.trans g)
 have hne:br ((r+1:Nat):Int)≠br (r:Int):=by
  by_cases h0:r=0
  ·rw [hr0 h0];exact (run_nil (by omega)).symm
  ·exact run_inj (by omega) (by omega) (by omega)
 have k1:cO (goneK d (br (r:Int))).1 b (r+1) pre cur [] S:=by
  refine h.stays (gone_db h.log.db _) (fun n=>Nat.le_trans (hgc n) (h.log.one n)) (hgs _ (hrr _ (by decide) (by intro l;simp [newN]))) (fun k h1 h2=>hgs _ ?_) (hgs _ (run_m _)) (fun _=>hgs _ hne) hnil
  refine hrr _ (nm_nil (by omega)).symm (fun l=> ?_)
  rcases nm_head k with g|⟨l2,g⟩<;>rw [g]<;>simp
 have p1:=pw_gone (br (r:Int)) hoff
 have hp:p=oldK d (r:Int) (from_:Int) ((b+1:Nat):Int):=rfl
 clear_value p
 unfold oldK at hp
 by_cases c:(goneK d (br (r:Int))).2≠0
 ·rw [if_pos c] at hp
  subst hp
  exact ⟨k1,p1,fun h0=>absurd h0 c⟩
 rw [if_neg c] at hp
 have c0:(goneK d (br (r:Int))).2=0:=by simpa using c
 have o1:=p1.off (by rw [c0];decide)
 have hg:has (goneK d (br (r:Int))).1.Files (br (r:Int))=false:=by
  unfold goneK at c0⊢
  by_cases hh:has d.Files (br (r:Int))=true
  ·rw [if_pos hh] at c0⊢
   have:=(delete_cnt d (br (r:Int)) (br (r:Int))).2 c0 rfl
   have:=h.log.one (br (r:Int))
   exact has_cnt.2 (by omega)
  ·rw [if_neg hh];simpa using hh
 generalize (goneK d (br (r:Int))).1=e at*
 unfold wdropM at hp
 rw [if_neg (show ¬(from_:Int)<1 by omega)] at hp
 have hcn:=fun n=>dropT_cnt ((b+1:Nat):Int) n (1000001 - (from_:Int)).toNat e (from_:Int)
 have hap:=fun n=>dropT_apart2 ((b+1:Nat):Int) n (1000001 - (from_:Int)).toNat e (from_:Int)
 have hdb:=dropT_db ((b+1:Nat):Int) (1000001 - (from_:Int)).toNat k1.log.db (from_:Int)
 have hpw:=pw_drop ((b+1:Nat):Int) (1000001 - (from_:Int)).toNat o1 (from_:Int)
 have hgn:=dropT_gone ((b+1:Nat):Int) (1000001 - (from_:Int)).toNat e (from_:Int) k1.log.one (by omega)
 rw [←hp] at hcn hap hdb hpw hgn
 refine ⟨k1.stays hdb (fun n=>Nat.le_trans (hcn n) (k1.log.one n)) (hap _ fun j _ _=>nameM_new j) (fun k h1 h2=>hap _ fun j h3 h4=> ?_) (hap _ fun j _ _=>(m_nmI j).symm) (fun _=>hap _ fun j _ _=>(run_nmI (by omega) j).symm) ?_,hpw,fun h0=>⟨?_,hgn h0⟩⟩
 ·intro e2
  have:=nameM_inj (mayM_iff.2 (by omega)) (mayM_iff.2 (by omega)) e2
  omega
 ·have:=hcn []
  rw [has_cnt.1 k1.nil] at this
  exact has_cnt.2 (by omega)
 ·have:=hcn (br (r:Int))
  rw [has_cnt.1 hg] at this
  exact has_cnt.2 (by omega)
theorem lay_stays {d:Disk} {name s n:Str} (h1:n≠frN name) (h2:n≠name∨(layM d name s).2≠0):Stays d (layM d name s).1 n:=by
 by_cases c:(layM d name s).2≠0
 ·exact lay_bad h1 c
 ·rcases h2 with h2|h2
  ·exact lay_apart h2 h1
  ·exact absurd h2 c
theorem nil_stays {d d2:Disk} (h:Stays d d2 []) (hn:has d.Files []=false):has d2.Files []=false:=by rw [h.1];exact hn
theorem cO.lay1 {d:Disk} {b r:Nat} {pre:List (List Str)} {cur:List Str} {tl:Str} {S:State} (h:cO d b r pre cur tl S) (hr:r+1≤1000000) {s:Str} (hs:s.length≤1099511627776):cO (layM d (br ((r+1:Nat):Int)) s).1 b r pre cur tl S:=by
 have h1:=h.log.one
 refine h.stays (lay_db h.log.db _ _ hs) (fun n=>lay_cnt s (h1 _) (h1 _) (h1 n)) (lay_stays (fr_new _) (.inl (run_new (by omega)).symm)) (fun k a1 a2=>lay_stays (fr_nm _ k) (.inl (run_nm (by omega) k).symm)) (lay_stays (fr_m _) (.inl (run_m _)))
  (fun h0=>lay_stays (fr_run _ _) (.inl (run_inj (by omega) (by omega) (by omega)))) (nil_stays (lay_stays (fr_nil _) (.inl (run_nil (by omega)))) h.nil)
theorem cO.lay2 {d:Disk} {b r:Nat} {pre:List (List Str)} {cur:List Str} {tl:Str} {S:State} (h:cO d b r pre cur tl S) {s:Str} (hs:s.length≤1099511627776) (hno:(layM d [109] s).2≠0):cO (layM d [109] s).1 b r pre cur tl S:=by
 have h1:=h.log.one
 exact h.stays (lay_db h.log.db _ _ hs) (fun n=>lay_cnt s (h1 _) (h1 _) (h1 n)) (lay_stays (fr_new _) (.inr hno)) (fun k a1 a2=>lay_stays (fr_nm _ k) (.inr hno)) (lay_stays (fr_m _) (.inr hno))
  (fun h0=>lay_stays (fr_run _ _) (.inr hno)) (nil_stays (lay_stays (fr_nil _) (.inr hno)) h.nil)
theorem cO.lay3 {d:Disk} {b r:Nat} {pre:List (List Str)} {cur:List Str} {S:State} (h:cO d b r pre cur [] S) (hr:r+1≤1000000) (hf:b+pre.length+2≤1000000) (hm:mayR (dE S)=true)
 (hrun:has d.Files (br ((r+1:Nat):Int))=true∧aj d.Files (br ((r+1:Nat):Int))=⟨br ((r+1:Nat):Int),(bytesR (dE S)).1,[]⟩)
 (hok:(layM d [109] (manifM ((b+pre.length+2:Nat):Int) ((r+1:Nat):Int))).2=0):cO (layM d [109] (manifM ((b+pre.length+2:Nat):Int) ((r+1:Nat):Int))).1 (b+pre.length+1) (r+1) [] [] [] S:=by
 have h1:=h.log.one
 have hml:=manifM_len (f:=((b+pre.length+2:Nat):Int)) (r:=((r+1:Nat):Int)) ⟨by omega,by omega⟩ ⟨by omega,by omega⟩
 have hg:=lay_good (h1 _) (h1 _) hok
 have st: ∀n,n≠[109]→n≠frN [109]→Stays d (layM d [109] (manifM ((b+pre.length+2:Nat):Int) ((r+1:Nat):Int))).1 n:=fun n a1 a2=>lay_stays a2 (.inl a1)
 have hdb:=lay_db h.log.db [109] (manifM ((b+pre.length+2:Nat):Int) ((r+1:Nat):Int)) (by omega)
 have hcn: ∀n,cnt (layM d [109] (manifM ((b+pre.length+2:Nat):Int) ((r+1:Nat):Int))).1.Files n≤1:=fun n=>lay_cnt _ (h1 _) (h1 _) (h1 n)
 have sr:=st (br ((r+1:Nat):Int)) (run_m _).symm (fr_run _ _)
 have sn:=fun k=>st (nm k) (nm_m k).symm (fr_nm _ k)
 have snw:=st newN (by decide) (fr_new _)
 have snil:=st [] (by decide) (fr_nil _)
 generalize (layM d [109] (manifM ((b+pre.length+2:Nat):Int) ((r+1:Nat):Int))).1=e at*
 have hno:has e.Files (nm (b+pre.length+2))=false:=by rw [(sn _).1];exact h.log.none _ (by omega) hf
 have hnf:=dh hno
 refine ⟨⟨S,⟨by omega,by omega,fun h0=>by omega,fun _=>⟨hg.1,?_,by rw [sr.1];exact hrun.1,by rw [sr.2];exact hrun.2,hm⟩,h.tok⟩,rfl⟩,⟨hdb,?_,hcn,by rw [snw.1];exact h.log.new,fun k a1 a2=> ?_,fun i s hi=>by (simp at hi),?_,?_,.inl rfl,fun s hs=>by (cases hs),fun t ht=>by (cases ht)⟩,?_,h.tok,nil_stays snil h.nil⟩
 ·rw [hg.2]
 ·simp only [List.length_nil];omega
 ·simp only [List.length_nil] at a1
  rw [(sn k).1];exact h.log.none k (by omega) a2
 ·show (aj e.Files (nm (b+pre.length+2))).Safe++(aj e.Files (nm (b+pre.length+2))).Wait=_
  rw [hnf];rfl
 ·show cG (aj e.Files (nm (b+pre.length+2)))≤65536
  rw [hnf];decide
 ·simp [aw]
theorem bytesR_may {l:List Pair} (h:(bytesR l).2=0):mayR l=true:=by
 unfold bytesR at h
 split at h
 ·assumption
 ·simp at h
theorem cO.check {x:Store} {b r:Nat} {pre:List (List Str)} {cur:List Str} (h:cO x.D b r pre cur [] x.S) (hdn:x.Down=false) (hoff:x.D.Off=false) (hF:x.From=((b+1:Nat):Int)) (hSg:x.Seg=((b+pre.length+1:Nat):Int)) (hR:x.Run=(r:Int)) (hl:(dE x.S).length≤6100000):
 (∃b2 r2 pre2 cur2,cO (di x).1.D b2 r2 pre2 cur2 [] x.S∧((di x).1.Down=false→(di x).1.From=((b2+1:Nat):Int)∧(di x).1.Seg=((b2+pre2.length+1:Nat):Int)∧(di x).1.Run=(r2:Int)∧(di x).1.D.Off=false))∧
 ((di x).2=0→(di x).1.From=x.Seg+1∧(di x).1.Seg=x.Seg+1∧(di x).1.Run=x.Run+1∧(di x).1.Down=false∧has (di x).1.D.Files (aC x.Seg)=false∧has (di x).1.D.Files (br x.Run)=false):=by
 have same: ∀e:Int,e≠0→(∃b2 r2 pre2 cur2,cO x.D b2 r2 pre2 cur2 [] x.S∧(x.Down=false→x.From=((b2+1:Nat):Int)∧x.Seg=((b2+pre2.length+1:Nat):Int)∧x.Run=(r2:Int)∧x.D.Off=false)):=
  fun e _=>⟨b,r,pre,cur,h,fun _=>⟨hF,hSg,hR,hoff⟩⟩
 have hf:=h.log.few
 obtain ⟨B,hB,_⟩:=h.base
 have hr1:=hB.r1
 unfold di
 rw [if_neg (by simp [hdn])]
 by_cases c2:1000000≤x.Seg∨1000000≤x.Run
 ·rw [if_pos c2];exact ⟨same 5 (by decide),fun h0=>absurd h0 (by simp)⟩
 rw [if_neg c2]
 by_cases c3:(bytesR (dE x.S)).2≠0
 ·rw [if_pos c3];exact ⟨same _ c3,fun h0=>absurd h0 c3⟩
 rw [if_neg c3]
 have hr2:r+1≤1000000:=by omega
 have hf2:b+pre.length+2≤1000000:=by omega
 have hbl:=bytesR_len hl
 have eR:x.Run+1=((r+1:Nat):Int):=by omega
 have eS:x.Seg+1=((b+pre.length+2:Nat):Int):=by omega
 have k1:=h.lay1 hr2 hbl
 have p1:=pw_lay (br ((r+1:Nat):Int)) (bytesR (dE x.S)).1 hoff
 have g1:=lay_good (name:=br ((r+1:Nat):Int)) (s:=(bytesR (dE x.S)).1) (h.log.one _) (h.log.one _)
 have hml:=manifM_len (f:=((b+pre.length+2:Nat):Int)) (r:=((r+1:Nat):Int)) ⟨by omega,by omega⟩ ⟨by omega,by omega⟩
 unfold lay2K twoL
 rw [eR,eS]
 by_cases c4:(layM x.D (br ((r+1:Nat):Int)) (bytesR (dE x.S)).1).2≠0
 ·rw [if_pos c4,if_pos c4]
  exact ⟨⟨b,r,pre,cur,k1,fun hd=>⟨hF,hSg,hR,p1.off (by simpa using hd)⟩⟩,fun h0=>absurd h0 c4⟩
 rw [if_neg c4]
 have c4':(layM x.D (br ((r+1:Nat):Int)) (bytesR (dE x.S)).1).2=0:=by simpa using c4
 have o1:=p1.off (by rw [c4'];decide)
 have g1:=g1 c4'
 generalize (layM x.D (br ((r+1:Nat):Int)) (bytesR (dE x.S)).1).1=d1 at*
 have p2:=pw_lay [109] (manifM ((b+pre.length+2:Nat):Int) ((r+1:Nat):Int)) o1
 by_cases c5:(layM d1 [109] (manifM ((b+pre.length+2:Nat):Int) ((r+1:Nat):Int))).2≠0
 ·rw [if_pos c5]
  exact ⟨⟨b,r,pre,cur,k1.lay2 (by omega) c5,fun hd=>⟨hF,hSg,hR,p2.off (by simpa using hd)⟩⟩,fun h0=>absurd h0 c5⟩
 rw [if_neg c5]
 have c5':(layM d1 [109] (manifM ((b+pre.length+2:Nat):Int) ((r+1:Nat):Int))).2=0:=by simpa using c5
 have k2:=k1.lay3 hr2 hf2 (bytesR_may (by simpa using c3)) g1 c5'
 have o2:=p2.off (by rw [c5'];decide)
 generalize (layM d1 [109] (manifM ((b+pre.length+2:Nat):Int) ((r+1:Nat):Int))).1=d2 at*
 obtain ⟨k3,p3,g3⟩:=k2.old (from_:=b+1) o2 hr2 (by omega) (by omega)
 rw [hR,hF]
 refine ⟨⟨b+pre.length+1,r+1,[],[],k3,fun hd=>⟨rfl,by simp;omega,rfl,p3.off (of_decide_eq_false hd)⟩⟩,fun h0=> ?_⟩
 obtain ⟨a1,a2⟩:=g3 h0
 exact ⟨rfl,rfl,rfl,decide_eq_false (fun e6=>absurd (h0.symm.trans e6) (by decide)),by rw [hSg];exact a2 _ (by omega) (by omega),a1⟩
theorem rounds_loop {σ ρ:Type} (step:σ→Option (σ⊕ρ)) (I:Nat→σ→Prop) (Q:ρ→Prop) (N:Nat)
 (hs: ∀k s,k<N→I k s→(∃s',step s=some (.inl s')∧I (k+1) s')∨(∃r,step s=some (.inr r)∧Q r)) (hend: ∀s,I N s→ ∃r,step s=some (.inr r)∧Q r) {s:σ} (h:I 0 s): ∃r,loop step s=some r∧Q r:=by
 have key: ∀(m k:Nat) (s:σ),k+m=N→I k s→ ∃r,loop step s=some r∧Q r:=by
  intro m
  induction m with
  |zero=>
   intro k s hk h
   have:k=N:=by omega
   subst this
   obtain ⟨r,h1,h2⟩:=hend s h
   exact ⟨r,aF h1,h2⟩
  |succ m ih=>
   intro k s hk h
   rcases hs k s (by omega) h with ⟨s',h1,h2⟩|⟨r,h1,h2⟩
   ·obtain ⟨r,h3,h4⟩:=ih (k+1) s' (by omega) h2
    exact ⟨r,by rw [bz h1];exact h3,h4⟩
   ·exact ⟨r,aF h1,h2⟩
 exact key N 0 s (by omega) h
structure SBd (s:State) (n:Nat):Prop where
 data:s.Data.length≤24*n
 toks:s.Toks.length≤n
 kd: ∀p∈s.Data,p.Key.length≤32
 kt: ∀p∈s.Toks,p.Key.length≤32
theorem SBd.mono {s:State} {n m:Nat} (h:SBd s n) (hm:n≤m):SBd s m:=⟨Nat.le_trans h.data (by omega),Nat.le_trans h.toks hm,h.kd,h.kt⟩
theorem apply_keys (w:List Write) (hw: ∀x∈w,x.Key.length≤32): ∀l:List Pair,(∀p∈l,p.Key.length≤32)→ ∀p∈applyM l w,p.Key.length≤32:=by
 induction w with
 |nil=>intro l hl;exact hl
 |cons x r ih=>
  intro l hl
  have e:applyM l (x::r)=applyM (doW l x) r:=rfl
  rw [e]
  refine ih (fun y hy=>hw y (List.mem_cons_of_mem _ hy)) _ (fun p hp=> ?_)
  unfold doW at hp
  split at hp
  ·exact hl p (List.mem_filter.1 hp).1
  ·rcases putP_mem hp with rfl|hp
   ·exact hw x (List.mem_cons_self ..)
   ·exact hl p hp
theorem good_keys {b:Batch} (h:mayB b=true):(∀x∈b.Writes,x.Key.length≤32)∧b.Token.length≤32∧b.Writes.length≤24:=by
 obtain ⟨⟨_,h2,h3,h4,_⟩,_,h6⟩:=(mayB_iff b).1 h
 refine ⟨fun x hx=> ?_,by omega,h4⟩
 have:=List.all_eq_true.1 h6 x hx
 unfold goodW at this
 simp only [Bool.and_eq_true,decide_eq_true_eq] at this
 omega
theorem SBd.step {s:State} {n:Nat} (h:SBd s n) (b:Batch):SBd (doB s b).1 (n+1):=by
 unfold doB
 split
 ·exact h.mono (by omega)
 split
 ·exact h.mono (by omega)
 ·rename_i hm _
  obtain ⟨g1,g2,g3⟩:=good_keys (b:=b) (by simpa using hm)
  have l1:=applyM_len b.Writes s.Data
  have l2:=putP_len s.Toks b.Token (gaveUp b)
  have:=h.data
  have:=h.toks
  refine ⟨by simp only;omega,by simp only;omega,apply_keys _ g1 _ h.kd,fun p hp=> ?_⟩
  rcases putP_mem hp with rfl|hp
  ·exact g2
  ·exact h.kt p hp
theorem SBd.ok {s:State} {n:Nat} (h:SBd s n) (hn:n≤200000):SOk s∧SK s∧(dE s).length≤6100000:=by
 have:=h.data
 have:=h.toks
 have hs:SOk s:=⟨by omega,by omega⟩
 exact ⟨hs,⟨hs,fun p hp=>by have:=h.kd p hp;omega,fun p hp=>by have:=h.kt p hp;omega⟩,by unfold dE;simp only [List.length_append,List.length_map];omega⟩
theorem no_SBd:SBd noState 0:=⟨by simp [noState],by simp [noState],by simp [noState],by simp [noState]⟩
structure KOk (x:Store) (tl:Str):Prop where
 disk: ∃b r pre cur,cO x.D b r pre cur tl x.S∧(x.Down=false→tl=[]∧x.From=((b+1:Nat):Int)∧x.Seg=((b+pre.length+1:Nat):Int)∧x.Run=(r:Int)∧x.D.Off=false)
 from_:In64 x.From
 seg:In64 x.Seg
 run:In64 x.Run
theorem KOk.db {x:Store} {tl:Str} (h:KOk x tl):DB x.D:=by obtain ⟨b,r,pre,cur,h1,_⟩:=h.disk;exact h1.log.db
theorem KOk.commit {x:Store} {tl:Str} (h:KOk x tl) (bt:Batch): ∃tl2,KOk (bK x bt).1 tl2:=by
 have hall:=h
 obtain ⟨⟨b,r,pre,cur,h1,h2⟩,hf,hsg,hr⟩:=h
 have hw:=wput_seg (d:=x.D) hsg (df bt).1
 unfold bK
 by_cases c1:x.Down=true
 ·rw [if_pos c1];exact ⟨tl,hall⟩
 rw [if_neg c1]
 by_cases c2:(df bt).2≠0
 ·rw [if_pos c2];exact ⟨tl,hall⟩
 rw [if_neg c2]
 by_cases c3:hasK x.S.Toks bt.Token=true
 ·rw [if_pos c3];exact ⟨tl,hall⟩
 rw [if_neg c3]
 obtain ⟨rfl,e1,e2,e3,e4⟩:=h2 (by simpa using c1)
 have hm:mayB bt=true:=by
  cases hm:mayB bt with
  |true=>rfl
  |false=>exfalso;apply c2;unfold df;rw [hm];simp
 obtain ⟨g1,g2⟩:=h1.put e4 (df bt).1 (recs_one hm) (doB_toks h1.tok)
 rw [←e2] at g1 g2
 by_cases c4:(wputM x.D x.Seg (df bt).1).2.2≠0
 ·rw [if_pos c4]
  obtain ⟨p2,u2,t2,k1,k2⟩:=g2 c4
  refine ⟨t2,⟨⟨b,r,p2,u2,k1,fun hd=> ?_⟩,hf,hw,hr⟩⟩
  obtain ⟨a1,a2,a3⟩:=k2 (of_decide_eq_false hd)
  exact ⟨a1,e1,a2,e3,a3⟩
 rw [if_neg c4]
 obtain ⟨q1,p2,u2,k1,k2,k3⟩:=g1 (by simpa using c4)
 rw [if_neg (fun x=>x q1)]
 exact ⟨[],⟨⟨b,r,p2,u2,k1,fun _=>⟨rfl,e1,k2,e3,k3⟩⟩,hf,hw,hr⟩⟩
theorem KOk.check {x:Store} {tl:Str} (h:KOk x tl) (hl:(dE x.S).length≤6100000):(∃tl2,KOk (di x).1 tl2∧(x.Down=false→tl2=[]))∧
 ((di x).2=0→(di x).1.From=x.Seg+1∧(di x).1.Seg=x.Seg+1∧(di x).1.Run=x.Run+1∧(di x).1.Down=false∧1≤x.Seg∧x.Seg<1000000∧has (di x).1.D.Files (aC x.Seg)=false∧has (di x).1.D.Files (br x.Run)=false):=by
 have hall:=h
 obtain ⟨⟨b,r,pre,cur,h1,h2⟩,hf,hsg,hr⟩:=h
 have hw:In64 (di x).1.From∧In64 (di x).1.Seg∧In64 (di x).1.Run:=by
  unfold di
  split
  ·exact ⟨hf,hsg,hr⟩
  split
  ·exact ⟨hf,hsg,hr⟩
  rename_i c
  split
  ·exact ⟨hf,hsg,hr⟩
  split
  ·exact ⟨hf,hsg,hr⟩
  ·exact ⟨⟨by simp only;omega,by simp only;omega⟩,⟨by simp only;omega,by simp only;omega⟩,⟨by simp only;omega,by simp only;omega⟩⟩
 by_cases c1:x.Down=true
 ·have e:di x=(x,6):=by unfold di;rw [if_pos c1]
  rw [e]
  exact ⟨⟨tl,hall,fun hd=>by rw [c1] at hd;cases hd⟩,fun h0=>by simp at h0⟩
 have hd:x.Down=false:=by simpa using c1
 obtain ⟨rfl,e1,e2,e3,e4⟩:=h2 hd
 obtain ⟨⟨b2,r2,p2,u2,k1,k2⟩,k3⟩:=h1.check hd e4 e1 e2 e3 hl
 have hS:=check_S x
 refine ⟨⟨[],⟨⟨b2,r2,p2,u2,by rw [hS];exact k1,fun hd2=> ?_⟩,hw.1,hw.2.1,hw.2.2⟩,fun _=>rfl⟩,fun h0=> ?_⟩
 ·obtain ⟨a1,a2,a3,a4⟩:=k2 hd2
  exact ⟨rfl,a1,a2,a3,a4⟩
 ·obtain ⟨a1,a2,a3,a4,a5,a6⟩:=k3 h0
  refine ⟨a1,a2,a3,a4,by omega,?_,a5,a6⟩
  unfold di at h0
  rw [if_neg c1] at h0
  by_cases c2:1000000≤x.Seg∨1000000≤x.Run
  ·rw [if_pos c2] at h0;simp at h0
  ·omega
theorem cO.arm {d:Disk} {b r:Nat} {pre:List (List Str)} {cur:List Str} {tl:Str} {S:State} (h:cO d b r pre cur tl S) {n:Int} (hn:In64 n):cO (armM d n) b r pre cur tl S:=
 h.stays (arm_db h.log.db hn) h.log.one ⟨rfl,rfl⟩ (fun _ _ _=>⟨rfl,rfl⟩) ⟨rfl,rfl⟩ (fun _=>⟨rfl,rfl⟩) h.nil
theorem KOk.arm {x:Store} {tl:Str} (h:KOk x tl) {n:Int} (hn:In64 n):KOk (armK x n) tl:=by
 obtain ⟨⟨b,r,pre,cur,h1,h2⟩,hf,hsg,hr⟩:=h
 exact ⟨⟨b,r,pre,cur,h1.arm hn,h2⟩,hf,hsg,hr⟩
theorem KOk.opened {d:Disk} {b r:Nat} {pre:List (List Str)} {cur:List Str} {tl:Str} {S:State} (h:cO d b r pre cur tl S) (hoff:d.Off=false) (hfuse:d.Fuse= -1) (hw:(aj d.Files (nm (b+pre.length+1))).Wait=[]):
 (tl≠[]∧(openK d).2=5)∨ ∃y,openK d=(y,0)∧openK y.D=(y,0)∧KOk y []∧y.S=S∧y.Down=false:=by
 rcases h.open hoff hfuse hw with h5|⟨d2,p2,u2,o1,o2,k1,k2⟩
 ·exact .inl h5
 ·obtain ⟨B,hB,_⟩:=h.base
  have hr1:=hB.r1
  have hf2:=k1.log.few
  exact .inr ⟨_,o1,o2,⟨⟨b,r,p2,u2,k1,fun _=>⟨rfl,rfl,rfl,rfl,k2⟩⟩,⟨by simp only;omega,by simp only;omega⟩,⟨by simp only;omega,by simp only;omega⟩,⟨by simp only;omega,by simp only;omega⟩⟩,rfl,rfl⟩
theorem KOk.crash {x:Store} {tl:Str} (h:KOk x tl) (keeps:List Int):(tl≠[]∧(crashK x keeps).2=5)∨ ∃y,crashK x keeps=(y,0)∧openK y.D=(y,0)∧KOk y []∧y.S=x.S∧y.Down=false:=by
 obtain ⟨⟨b,r,pre,cur,h1,h2⟩,hf,hsg,hr⟩:=h
 obtain ⟨t2,k1,k2,k3⟩:=h1.crash keeps
 rcases KOk.opened k1 rfl rfl k3 with ⟨g1,g2⟩|g
 ·exact .inl ⟨fun ht=>g1 (k2 ht),g2⟩
 ·exact .inr g
theorem KOk.new {room:Int} (h:In64 room) (h0:0≤room): ∃y,openK (newM room).1=(y,0)∧KOk y []∧y.S=noState∧y.Down=false∧y.D=(newM room).1:=by
 have hdb:=new_db h
 have e:(newM room).1=⟨[],room, -1,false⟩:=by unfold newM;rw [if_neg (by omega)]
 rw [e] at hdb⊢
 have k:cO ⟨[],room, -1,false⟩ 0 0 [] [] [] noState:=⟨⟨noState,⟨by omega,by omega,fun _=>⟨rfl,rfl,rfl⟩,fun h=>absurd rfl h,fun p hp=>by (cases hp)⟩,rfl⟩,
  ⟨hdb,by decide,fun n=>by simp [cnt],rfl,fun k _ _=>rfl,fun i s hi=>by (simp at hi),rfl,by simp [aj,noFile,cG],.inl rfl,fun s hs=>by (cases hs),fun t ht=>by (cases ht)⟩,by simp [aw],fun p hp=>by (cases hp),rfl⟩
 have o:openK ⟨[],room, -1,false⟩=(⟨⟨[],room, -1,false⟩,1,1,0,noState,false⟩,0):=by
  have hr:=recover_log k.log
  obtain ⟨B,hB,hb⟩:=k.base
  obtain ⟨o1,o2⟩:=hB.open hdb
  obtain rfl:B=noState:=(hB.zero rfl).2.2
  unfold openK
  simp only [o1,o2,hr]
  rfl
 exact ⟨_,o,⟨⟨0,0,[],[],k,fun _=>⟨rfl,rfl,rfl,rfl,rfl⟩⟩,⟨by simp,by simp⟩,⟨by simp,by simp⟩,⟨by simp,by simp⟩⟩,rfl,rfl,rfl⟩
structure NoFuse (d:Disk):Prop where
 f:d.Fuse= -1
 o:d.Off=false
theorem KOk.sto {x:Store} {tl:Str} (h:KOk x tl) {n:Nat} (hs:SBd x.S n) (hn:n≤200000):StoOk x:=⟨h.db,(hs.ok hn).1,h.seg⟩
end Go.Ab
namespace Go.Ab
set_option linter.unusedVariables false
set_option linter.unusedSimpArgs false
theorem find_some {α:Type} {l:List α} {p:α→Bool} {k:Nat} {x:α} (hk:l[k]? =some x) (hp:p x=true) (hn: ∀j y,j<k→l[j]? =some y→p y=false):l.find? p=some x:=by
 induction l generalizing k with
 |nil=>simp at hk
 |cons a r ih=>
  cases k with
  |zero=>simp at hk;subst hk;rw [List.find?_cons,hp]
  |succ k=>
   have h0:=hn 0 a (by omega) rfl
   rw [List.find?_cons,h0]
   exact ih (by simpa using hk) (fun j y hj hy=>hn (j+1) y (by omega) (by simpa using hy))
theorem begin_any {T:List Txn} (hl:T.length≤4398046511104) (v:Str):bo T v=some (T.any fun t=>decide (t.Token=v)):=by
 unfold bo cm
 rcases find_loop T (fun t=>decide (t.Token=v)) (fun k=>(.inl (k:Int):Int⊕Unit)) (.inr ()) (fun (s:Int)=>aS T v s) hl (fun k x hk=>by
  have hlt:=(List.getElem?_eq_some_iff.1 hk).1
  unfold aS
  rw [if_pos (by simpa using hlt),aP hlt,(List.getElem?_eq_some_iff.1 hk).2,IntWalk.i64_in _ ⟨by omega,by omega⟩]
  unfold engine_Begin_1
  by_cases h:x.Token=v<;>simp [h]) (by unfold aS;rw [if_neg (by simp)]) with ⟨k,_,h1,h2⟩|⟨h1,h2⟩
 ·rw [h1,h2]
  simp
 ·rw [h1,h2]
  simp
abbrev idB (id:Int) (t:Txn):Bool:=decide (t.Id=id)
abbrev noTxn:Txn:=⟨0,[],[],false,⟨0,[],[],[],[],0⟩⟩
theorem atT_eq {T:List Txn} (hl:T.length≤4398046511104) (id:Int):(∃(k:Nat) (x:Txn),T[k]? =some x∧bu T id=some (k:Int)∧x.Id=id∧ ∀y∈T.take k,y.Id≠id)∨(bu T id=some (-1)∧ ∀y∈T,y.Id≠id):=by
 unfold bu
 rcases find_first T (idB id) (fun k=>(.inl (k:Int):Int⊕Unit)) (.inr ()) (fun (s:Int)=>bg T id s) (fun k x hk=>by
  have hlt:=(List.getElem?_eq_some_iff.1 hk).1
  unfold bg
  rw [if_pos (by simpa using hlt),aP hlt,(List.getElem?_eq_some_iff.1 hk).2,IntWalk.i64_in _ ⟨by omega,by omega⟩]
  unfold engine_at_1
  by_cases h:x.Id=id<;>simp [h]) (by unfold bg;rw [if_neg (by simp)]) with ⟨k,x,hk,h1,h2,h3⟩|⟨h1,h2⟩
 ·rw [h1]
  exact .inl ⟨k,x,hk,rfl,of_decide_eq_true h2,fun y hy=>of_decide_eq_false (h3 y hy)⟩
 ·rw [h1]
  exact .inr ⟨rfl,fun y hy=>of_decide_eq_false (h2 y hy)⟩
theorem find_take {T:List Txn} {k:Nat} {x:Txn} {id:Int} (hk:T[k]? =some x) (hx:x.Id=id) (hn: ∀y∈T.take k,y.Id≠id):T.find? (idB id)=some x:=
 find_some hk (decide_eq_true hx) fun j y hj hy=>decide_eq_false (hn y (List.mem_of_getElem? (i:=j) (by rw [List.getElem?_take_of_lt hj];exact hy)))
theorem findT_none {T:List Txn} {id:Int} (hn: ∀y∈T,y.Id≠id):T.find? (idB id)=none:=List.find?_eq_none.2 fun y hy=>by simpa using hn y hy
def findT (T:List Txn) (id:Int):Txn×Bool:=match T.find? (idB id) with|some t=>(t,true)|none=>(noTxn,false)
theorem find_eqE {e:Engine} (hl:e.T.length≤4398046511104) (id:Int):dw e id=some (findT e.T id):=by
 unfold dw engine_at findT
 rcases atT_eq hl id with ⟨k,x,hk,h1,h2,h3⟩|⟨h1,h2⟩
 ·have hlt:=(List.getElem?_eq_some_iff.1 hk).1
  rw [h1,find_take hk h2 h3]
  simp only [Option.bind_some]
  rw [if_neg (by simp),aP hlt,(List.getElem?_eq_some_iff.1 hk).2]
  rfl
 ·rw [h1,findT_none h2]
  rfl
def putT (T:List Txn) (t:Txn):List Txn:=T.map fun u=>if u.Id=t.Id then t else u
theorem set_map {T:List Txn} {k:Nat} {x t:Txn} (hn:(T.map (·.Id)).Nodup) (hk:T[k]? =some x) (hx:x.Id=t.Id):T.set k t=putT T t:=by
 unfold putT
 induction T generalizing k with
 |nil=>simp at hk
 |cons a r ih=>
  have hn':=List.nodup_cons.1 (by simpa using hn:(a.Id::r.map (·.Id)).Nodup)
  cases k with
  |zero=>
   simp at hk;subst hk
   rw [List.set_cons_zero,List.map_cons,if_pos hx]
   congr 1
   symm
   refine (List.map_congr_left fun u hu=> ?_).trans (List.map_id _)
   rw [if_neg (fun h=>hn'.1 (by rw [hx,←h];exact List.mem_map_of_mem hu))]
   rfl
  |succ k=>
   have hk':r[k]? =some x:=by simpa using hk
   rw [List.set_cons_succ,List.map_cons,ih hn'.2 hk',if_neg (fun h=>hn'.1 (by rw [h,←hx];exact List.mem_map_of_mem (List.mem_of_getElem? hk')))]
theorem put_eqE {v:Engine} {l:List Done} {t:Txn} (hl:v.T.length≤1000000) (hn:(v.T.map (·.Id)).Nodup) (hm:t.Id∈v.T.map (·.Id)):engine_work_put v l t=some ⟨v.X,v.L,putT v.T t,v.Next,v.Now⟩:=by
 unfold engine_work_put engine_at
 rw [ah (by omega)]
 rcases atT_eq (T:=v.T) (by omega) t.Id with ⟨k,x,hk,h1,h2,h3⟩|⟨h1,h2⟩
 ·have hlt:=(List.getElem?_eq_some_iff.1 hk).1
  rw [h1]
  simp only [Option.bind_some]
  rw [aP hlt]
  simp only [Option.bind_some,Int.toNat_natCast]
  rw [set_map hn hk h2]
 ·obtain ⟨y,hy,hyt⟩:=List.mem_map.1 hm
  exact absurd hyt (h2 y hy)
end Go.Ab
namespace Go.Ab
set_option linter.unusedVariables false
set_option linter.unusedSimpArgs false
def mayO (op:Op_):Bool:=
 if op.Kind=2 then decide (1≤op.Key.length∧op.Key.length≤32∧op.Val.length≤64)
 else if op.Kind=1∨op.Kind=3 then decide (1≤op.Key.length∧op.Key.length≤32)
 else if op.Kind=4 then decide (op.Lo.length≤32∧op.Hi.length≤32∧1≤op.Most∧op.Most≤16)
 else decide (op.Kind=5∨op.Kind=6)
theorem may_eqE (op:Op_):engine_may op=some (mayO op):=by
 have c1:decide ((op.Key.length:Int)≥1)=decide (1≤op.Key.length):=decide_eq_decide.2 (by omega)
 have c2:decide ((op.Key.length:Int)≤32)=decide (op.Key.length≤32):=decide_eq_decide.2 (by omega)
 have c3:decide ((op.Val.length:Int)≤64)=decide (op.Val.length≤64):=decide_eq_decide.2 (by omega)
 have c4:decide ((op.Lo.length:Int)≤32)=decide (op.Lo.length≤32):=decide_eq_decide.2 (by omega)
 have c5:decide ((op.Hi.length:Int)≤32)=decide (op.Hi.length≤32):=decide_eq_decide.2 (by omega)
 have c6:decide (op.Most≥1)=decide (1≤op.Most):=rfl
 unfold engine_may mayO
 rw [c1,c2,c3,c4,c5,c6]
 by_cases h2:op.Kind=2
 ·rw [if_pos (by simpa using h2),if_pos h2]
  by_cases a:1≤op.Key.length
  ·by_cases b:op.Key.length≤32
   ·rw [decide_eq_true a,decide_eq_true b,if_pos (show (true&&true)=true from rfl)]
    simp only [Option.bind_some,a,b,true_and]
   ·rw [decide_eq_true a,decide_eq_false b,if_neg (by simp)]
    simp only [Option.bind_some,b,false_and,and_false,decide_false]
  ·rw [decide_eq_false a,if_neg (by simp)]
   simp only [Option.bind_some,a,false_and,decide_false]
 ·rw [if_neg (by simpa using h2),if_neg h2]
  by_cases h1:op.Kind=1∨op.Kind=3
  ·rw [if_pos (by simpa using h1),if_pos h1]
   simp only [Option.bind_some,Bool.decide_and]
  ·rw [if_neg (by simpa using h1),if_neg h1]
   by_cases h4:op.Kind=4
   ·rw [if_pos (by simpa using h4),if_pos h4]
    simp only [Option.bind_some]
    by_cases a:op.Lo.length≤32
    ·rw [decide_eq_true a,if_pos rfl]
     by_cases b:op.Hi.length≤32
     ·rw [decide_eq_true b,if_pos rfl]
      by_cases c:1≤op.Most
      ·rw [decide_eq_true c,if_pos rfl];simp only [a,b,c,true_and]
      ·rw [decide_eq_false c,if_neg (by simp)];simp only [c,false_and,and_false,decide_false]
     ·rw [decide_eq_false b,if_neg (by simp)];simp only [b,false_and,and_false,decide_false]
    ·rw [decide_eq_false a,if_neg (by simp)];simp only [a,false_and,decide_false]
   ·rw [if_neg (by simpa using h4),if_neg h4]
    simp only [Option.bind_some]
    by_cases a:op.Kind=5
    ·rw [if_pos (by simpa using a)];simp only [a,true_or,decide_true]
    ·rw [if_neg (by simpa using a)];simp only [a,false_or]
end Go.Ab
namespace Go.Ab
set_option linter.unusedVariables false
set_option linter.unusedSimpArgs false
def bT (now:Int):Int:=if now≤18446744073709551610 then now+5 else 18446744073709551615
theorem notU {n:Int} (h0:0≤n) (h1:n≤18446744073709551615):IntKind.u64.wrap ((BitVec.ofInt 64 18446744073709551615 ^^^ BitVec.ofInt 64 n).toNat:Int)=18446744073709551615 - n:=by
 obtain ⟨k,rfl⟩: ∃k:Nat,n=k:=⟨n.toNat,by omega⟩
 have e:(BitVec.ofInt 64 18446744073709551615 ^^^ BitVec.ofInt 64 (k:Int)).toNat=18446744073709551615 - k:=by
  have e1:BitVec.ofInt 64 (k:Int)=BitVec.ofNat 64 k:=by simp
  have e2:BitVec.ofInt 64 18446744073709551615=BitVec.allOnes 64:=by decide
  rw [e1,e2,BitVec.allOnes_xor,BitVec.toNat_not,BitVec.toNat_ofNat]
  omega
 rw [e,IntKind.wrap_u64]
 omega
theorem until_eqE {now:Int} (h0:0≤now) (h1:now≤18446744073709551615):engine_until now=some (bT now):=by
 unfold engine_until bT
 rw [notU h0 h1,IntKind.wrap_u64]
 congr 1
 split<;>split<;>omega
def wantM (op:Op_):Want:=if op.Kind=1 then ⟨1,op.Key,op.Key++[0]⟩ else if op.Kind=4 then ⟨1,op.Lo,op.Hi⟩ else ⟨2,op.Key,op.Key++[0]⟩
theorem wants_eqE {op:Op_} (hk:op.Key.length≤2000000):engine_wants op=some (wantM op):=by
 have e: ∀m,span_Key m op.Key=some ⟨m,op.Key,op.Key++[0]⟩:=fun m=>by
  unfold span_Key
  rw [ah (by simp;omega)]
 unfold engine_wants wantM
 rw [e,e]
 by_cases h1:op.Kind=1
 ·rw [if_pos (by simpa using h1),if_pos h1];rfl
 ·rw [if_neg (by simpa using h1),if_neg h1]
  by_cases h4:op.Kind=4
  ·rw [if_pos (by simpa using h4),if_pos h4]
  ·rw [if_neg (by simpa using h4),if_neg h4];rfl
theorem want_ok {op:Op_} (h1:op.Key.length≤2000000) (h2:op.Lo.length≤2000000) (h3:op.Hi.length≤2000000):wOk (wantM op):=by
 unfold wantM wOk
 split
 ·simp;omega
 ·split
  ·exact ⟨Nat.le_trans h2 (by decide),Nat.le_trans h3 (by decide)⟩
  ·simp;omega
end Go.Ab
namespace Go.Ab
set_option linter.unusedVariables false
set_option linter.unusedSimpArgs false
abbrev keyB (key:Str) (x:Write):Bool:=decide (x.Key=key)
theorem find_someW {l:List Write} {p:Write→Bool} {k:Nat} {x:Write} (hk:l[k]? =some x) (hp:p x=true) (hn: ∀y∈l.take k,p y=false):l.find? p=some x:=
 find_some hk hp fun j y hj hy=>hn y (List.mem_of_getElem? (i:=j) (by rw [List.getElem?_take_of_lt hj];exact hy))
theorem vget_at {l:List Write} (hl:l.length≤4398046511104) (key:Str):(∃(k:Nat) (x:Write),l[k]? =some x∧b9 l key=some (k:Int)∧l.find? (keyB key)=some x)∨(b9 l key=some (-1)∧l.find? (keyB key)=none):=by
 unfold b9
 rcases find_first l (keyB key) (fun k=>(.inl (k:Int):Int⊕Unit)) (.inr ()) (fun (s:Int)=>bJ l key s) (fun k x hk=>by
  have hlt:=(List.getElem?_eq_some_iff.1 hk).1
  unfold bJ
  rw [if_pos (by simpa using hlt),aP hlt,(List.getElem?_eq_some_iff.1 hk).2,IntWalk.i64_in _ ⟨by omega,by omega⟩]
  unfold view_Get_1
  by_cases h:x.Key=key<;>simp [h]) (by unfold bJ;rw [if_neg (by simp)]) with ⟨k,x,hk,h1,h2,h3⟩|⟨h1,h2⟩
 ·rw [h1]
  exact .inl ⟨k,x,hk,rfl,find_someW hk h2 h3⟩
 ·rw [h1]
  exact .inr ⟨rfl,List.find?_eq_none.2 fun y hy=>by rw [h2 y hy];simp⟩
def getW (l:List Write) (base:List Pair) (key:Str):Str×Bool:=match l.find? (keyB key) with|some x=>if x.Del then ([],false) else (x.Val,true)|none=>findM base key
theorem vget_eq {l:List Write} (hl:l.length≤4398046511104) {base:List Pair} (hb:base.length≤2000000000000) (key:Str):view_Get l base key=some (getW l base key):=by
 unfold view_Get getW
 rcases vget_at hl key with ⟨k,x,hk,h1,h2⟩|⟨h1,h2⟩
 ·have hlt:=(List.getElem?_eq_some_iff.1 hk).1
  rw [h1,h2]
  simp only [Option.bind_some]
  rw [if_neg (by simp),aP hlt,(List.getElem?_eq_some_iff.1 hk).2]
  simp only [Option.bind_some]
  split<;>rfl
 ·rw [h1,h2]
  simp only [Option.bind_some]
  rw [if_pos (by simp),tfind_eq hb]
  rfl
end Go.Ab
namespace Go.Ab
set_option linter.unusedVariables false
set_option linter.unusedSimpArgs false
def gtB (x y:Write):Bool:= !(ltS y.Key x.Key||decide (y.Key=x.Key))
theorem vset_at1 {l:List Write} (hl:l.length≤4398046511104) (w:Write):(∃(k:Nat) (x:Write),l[k]? =some x∧b8 l w=some (k:Int)∧x.Key=w.Key∧ ∀y∈l.take k,y.Key≠w.Key)∨(b8 l w=some (-1)∧ ∀y∈l,y.Key≠w.Key):=by
 unfold b8
 rcases find_first l (keyB w.Key) (fun k=>(.inl (k:Int):Int⊕Unit)) (.inr ()) (fun (s:Int)=>bI l w s) (fun k x hk=>by
  have hlt:=(List.getElem?_eq_some_iff.1 hk).1
  unfold bI
  rw [if_pos (by simpa using hlt),aP hlt,(List.getElem?_eq_some_iff.1 hk).2,IntWalk.i64_in _ ⟨by omega,by omega⟩]
  unfold view_Set_1
  by_cases h:x.Key=w.Key<;>simp [h]) (by unfold bI;rw [if_neg (by simp)]) with ⟨k,x,hk,h1,h2,h3⟩|⟨h1,h2⟩
 ·rw [h1]
  exact .inl ⟨k,x,hk,rfl,of_decide_eq_true h2,fun y hy=>of_decide_eq_false (h3 y hy)⟩
 ·rw [h1]
  exact .inr ⟨rfl,fun y hy=>of_decide_eq_false (h2 y hy)⟩
theorem vset_at2 {l:List Write} (hl:l.length≤4398046511104) (w:Write):(∃(k:Nat) (x:Write),l[k]? =some x∧b7 l w=some (k:Int)∧gtB w x=true∧ ∀y∈l.take k,gtB w y=false)∨(b7 l w=some (-1)∧ ∀y∈l,gtB w y=false):=by
 unfold b7
 rcases find_first l (gtB w) (fun k=>(.inl (k:Int):Int⊕Unit)) (.inr ()) (fun (s:Int)=>bH l w s) (fun k x hk=>by
  have hlt:=(List.getElem?_eq_some_iff.1 hk).1
  unfold bH
  rw [if_pos (by simpa using hlt),aP hlt,(List.getElem?_eq_some_iff.1 hk).2,IntWalk.i64_in _ ⟨by omega,by omega⟩]
  unfold view_Set_2 gtB
  simp only [Option.bind_some];rfl) (by unfold bH;rw [if_neg (by simp)]) with ⟨k,x,hk,h1,h2,h3⟩|⟨h1,h2⟩
 ·rw [h1]
  exact .inl ⟨k,x,hk,rfl,h2,h3⟩
 ·rw [h1]
  exact .inr ⟨rfl,h2⟩
end Go.Ab
namespace Go.Ab
set_option linter.unusedVariables false
set_option linter.unusedSimpArgs false
def setW (l:List Write) (w:Write):List Write:=
 if l.any (keyB w.Key) then l.set (l.findIdx (keyB w.Key)) w else l.take (l.findIdx (gtB w))++[w]++l.drop (l.findIdx (gtB w))
theorem idx_first {l:List Write} {p:Write→Bool} {k:Nat} {x:Write} (hk:l[k]? =some x) (hp:p x=true) (hn: ∀y∈l.take k,p y=false):l.findIdx p=k:=by
 induction l generalizing k with
 |nil=>simp at hk
 |cons a r ih=>
  cases k with
  |zero=>simp at hk;subst hk;rw [List.findIdx_cons,hp];rfl
  |succ k=>
   have h0:=hn a (by simp)
   rw [List.findIdx_cons,h0,ih (by simpa using hk) (fun y hy=>hn y (by simp [hy]))]
   rfl
theorem idx_none {l:List Write} {p:Write→Bool} (hn: ∀y∈l,p y=false):l.findIdx p=l.length:=by
 induction l with
 |nil=>rfl
 |cons a r ih=>rw [List.findIdx_cons,hn a (by simp),ih (fun y hy=>hn y (by simp [hy]))];rfl
theorem vset_eq {l:List Write} (hl:l.length≤1000000) (w:Write):view_Set l w=some (setW l w):=by
 unfold view_Set setW
 rcases vset_at1 (l:=l) (by omega) w with ⟨k,x,hk,h1,h2,h3⟩|⟨h1,h2⟩
 ·have hlt:=(List.getElem?_eq_some_iff.1 hk).1
  rw [h1,if_pos (List.any_eq_true.2 ⟨x,List.mem_of_getElem? hk,decide_eq_true h2⟩),idx_first hk (decide_eq_true h2) (fun y hy=>decide_eq_false (h3 y hy))]
  simp only [Option.bind_some]
  rw [if_pos (by simp),ah (by omega),aP hlt]
  simp only [Option.bind_some,Int.toNat_natCast]
 ·rw [h1,if_neg (by rw [Bool.not_eq_true,List.any_eq_false];intro y hy;simpa using h2 y hy)]
  simp only [Option.bind_some]
  rw [if_neg (by simp)]
  rcases vset_at2 (l:=l) (by omega) w with ⟨k,x,hk,g1,g2,g3⟩|⟨g1,g2⟩
  ·have hlt:=(List.getElem?_eq_some_iff.1 hk).1
   rw [g1,idx_first hk g2 g3]
   simp only [Option.bind_some]
   rw [if_neg (by simp),ah ⟨by omega,by omega,by omega⟩,Int.toNat_natCast]
  ·rw [g1,idx_none g2]
   simp only [Option.bind_some]
   rw [if_pos (by simp),ah (by omega),List.take_length,List.drop_length,List.append_nil]
end Go.Ab
namespace Go.Ab
set_option linter.unusedVariables false
set_option linter.unusedSimpArgs false
def sizeW (l:List Write):Nat:=(l.map fun x=>x.Key.length+x.Val.length).sum
theorem vsize_eq {l:List Write} (hl:l.length≤1000000) (hs: ∀x∈l,x.Key.length+x.Val.length≤1099511627776):view_Size l=some (sizeW l:Int):=by
 unfold view_Size
 have h:=(fold_loop (ρ:=Int) l (fun k (s:Nat)=>((s:Int),(k:Int))) (fun (s:Int×Int)=>view_Size_l2 l s.1 s.2) (fun s x=>s+(x.Key.length+x.Val.length)) (fun s=>(s:Int)) (fun k s=>s≤k*1099511627776)
  (fun k x s hk hi=>by
    have hlt:=(List.getElem?_eq_some_iff.1 hk).1
    have hx:=hs x (List.mem_of_getElem? hk)
    have hle:k*1099511627776≤1000000*1099511627776:=Nat.mul_le_mul_right _ (by omega)
    refine ⟨?_,by rw [Nat.add_mul];omega⟩
    unfold view_Size_l2
    rw [if_pos (by simpa using hlt),aP hlt,(List.getElem?_eq_some_iff.1 hk).2]
    simp only [Option.bind_some]
    rw [IntWalk.i64_in ((x.Key.length:Int)+x.Val.length) ⟨by omega,by omega⟩,IntWalk.i64_in _ ⟨by omega,by omega⟩,IntWalk.i64_in _ ⟨by omega,by omega⟩]
    simp only [Int.natCast_add]
    rfl) (fun s hi=>by unfold view_Size_l2;rw [if_neg (by simp)]) 0 (by simp)).1
 have e:(fun (s1:Int×Int)=>view_Size_l2 l s1.1 s1.2)=fun (s:Int×Int)=>view_Size_l2 l s.1 s.2:=rfl
 have h':loop (fun (s1:Int×Int)=>view_Size_l2 l s1.1 s1.2) ((0:Int),(0:Int))=some ((l.foldl (fun s x=>s+(x.Key.length+x.Val.length)) 0:Nat):Int):=h
 rw [h']
 simp only [Option.bind_some,Option.some.injEq]
 have key: ∀(l:List Write) (a:Nat),l.foldl (fun s x=>s+(x.Key.length+x.Val.length)) a=a+sizeW l:=by
  intro l
  induction l with
  |nil=>intro a;simp [sizeW]
  |cons x r ih=>intro a;rw [List.foldl_cons,ih];simp [sizeW];omega
 rw [key]
 omega
end Go.Ab
namespace Go.Ab
set_option linter.unusedVariables false
set_option linter.unusedSimpArgs false
abbrev noOp:Op_:=⟨0,[],[],[],[],0⟩
abbrev saidE (id e:Int):Done:=⟨id,e,[],false,[],false⟩
def inB (lo hi:Str) (p:Pair):Bool:=(!ltS p.Key lo)&&(decide (hi=[])||ltS p.Key hi)
def rangeM (l:List Pair) (lo hi:Str) (most:Nat):List Pair:=(l.filter (inB lo hi)).take most
def writeM (op:Op_):Write:=if op.Kind=3 then ⟨op.Key,[],true⟩ else ⟨op.Key,op.Val,false⟩
def bigM (l:List Write):Bool:=decide (24<l.length∨512<sizeW l)
def doesO (e:Engine) (t:Txn) (op:Op_):Engine×Done:=
 if op.Kind=1 then (e,⟨t.Id,0,(getW t.Writes e.X.S.Data op.Key).1,(getW t.Writes e.X.S.Data op.Key).2,[],false⟩)
 else if op.Kind=4 then (e,⟨t.Id,0,[],false,rangeM (applyM e.X.S.Data t.Writes) op.Lo op.Hi op.Most.toNat,false⟩)
 else if op.Kind=2∨op.Kind=3 then
  if bigM (setW t.Writes (writeM op))=true then (e,saidE t.Id 4) else ({e with T:=putT e.T {t with Writes:=setW t.Writes (writeM op)}},saidE t.Id 0)
 else (e,saidE t.Id 0)
abbrev World:=Engine×List Done
abbrev calm (t:Txn):Txn:= {t with Waits:=false,Op:=noOp}
def stepG (s:World) (o:Int):World:=
 match s.1.T.find? (idB o) with
 |none=>s
 |some t=>((doesO {s.1 with T:=putT s.1.T (calm t)} (calm t) t.Op).1,s.2++[(doesO {s.1 with T:=putT s.1.T (calm t)} (calm t) t.Op).2])
def outT (T:List Txn) (id:Int):List Txn:=T.filter (fun t=> !decide (t.Id=id))
def goesM (s:World) (id:Int):World:=(bZ s.1.L id).2.foldl stepG ({s.1 with L:=(bZ s.1.L id).1,T:=outT s.1.T id},s.2)
def endsM (s:World) (id err:Int):World:=goesM (s.1,s.2++[⟨id,err,[],false,[],true⟩]) id
noncomputable def ringsF:Nat→World→Int→World
 |0,s,_=>s
 |n+1,s,id=>if (victM s.1.L id).2=true then ringsF n (endsM s (victM s.1.L id).1 13) id else s
noncomputable def ringsM (s:World) (id:Int):World:=ringsF ((ringM s.1.L id).length+1) s id
noncomputable def locksM (s:World) (t:Txn) (op:Op_):World:=
 if (askM s.1.L t.Id (wantM op) (bT s.1.Now)).2=0 then
  ((doesO {s.1 with L:=(askM s.1.L t.Id (wantM op) (bT s.1.Now)).1} t op).1,s.2++[(doesO {s.1 with L:=(askM s.1.L t.Id (wantM op) (bT s.1.Now)).1} t op).2])
 else if (askM s.1.L t.Id (wantM op) (bT s.1.Now)).2=12 then
  ringsM ({s.1 with L:=(askM s.1.L t.Id (wantM op) (bT s.1.Now)).1,T:=putT s.1.T {t with Waits:=true,Op:=op}},s.2) t.Id
 else ({s.1 with L:=(askM s.1.L t.Id (wantM op) (bT s.1.Now)).1},s.2++[saidE t.Id (askM s.1.L t.Id (wantM op) (bT s.1.Now)).2])
def batchM (t:Txn) (op:Op_):Batch:=if op.Kind=5 then ⟨1,t.Token,t.Writes⟩ else ⟨2,t.Token,[]⟩
noncomputable def askE (e:Engine) (id:Int) (op:Op_):World:=
 match e.T.find? (idB id) with
 |none=>(e,[saidE id 7])
 |some t=>if t.Waits=true then (e,[saidE id 9]) else if mayO op=false then (e,[saidE id 1]) else
  if op.Kind=5∨op.Kind=6 then endsM ({e with X:=(bK e.X (batchM t op)).1},[]) id (bK e.X (batchM t op)).2
  else locksM (e,[]) t op
def leaveE (e:Engine) (id:Int):World:=
 match e.T.find? (idB id) with
 |none=>(e,[])
 |some t=>goesM ({e with X:=(bK e.X ⟨2,t.Token,[]⟩).1},[]) id
def stepT (s:World) (id:Int):World:=if da s.1.L id=true then endsM s id 13 else s
def tickE (e:Engine) (now:Int):World:=(lateM e.L (max e.Now now)).foldl stepT ({e with Now:=max e.Now now},[])
def beginE (e:Engine) (token:Str):Engine×Int×Int:=
 if e.X.Down=true then (e,0,6) else if token.length<1∨16<token.length then (e,0,1) else
 if hasK e.X.S.Toks token=true then (e,0,8) else if e.T.any (fun t=>decide (t.Token=token))=true then (e,0,9) else
 if 6≤e.T.length then (e,0,11) else if 64≤e.X.S.Toks.length+e.T.length then (e,0,5) else
 ({e with T:=e.T++[⟨e.Next,token,[],false,noOp⟩],Next:=e.Next+1},e.Next,0)
def checkE (e:Engine):Engine×Int:=({e with X:=(di e.X).1},(di e.X).2)
def noEngine:Engine:=⟨noStore,⟨[],[]⟩,[],0,0⟩
def newE (d:Disk):Engine×Int:=if (openK d).2=0 then (⟨(openK d).1,⟨[],[]⟩,[],1,0⟩,0) else (noEngine,(openK d).2)
def crashE (e:Engine) (keeps:List Int):Engine×Int:=
 if (newE (crashM e.X.D keeps)).2=0 then ({(newE (crashM e.X.D keeps)).1 with Next:=e.Next,Now:=e.Now},0) else newE (crashM e.X.D keeps)
def armE (e:Engine) (fuse:Int):Engine:= {e with X:=armK e.X fuse}
end Go.Ab
namespace Go.Ab
set_option linter.unusedVariables false
set_option linter.unusedSimpArgs false
structure WrOk (l:List Write):Prop where
 len:l.length≤24
 size:sizeW l≤512
 keys:(l.map (·.Key)).Nodup
 good: ∀w∈l,w.Key.length≤32∧w.Val.length≤64
theorem wrOk_nil:WrOk []:=⟨by simp,by simp [sizeW],by simp,by simp⟩
theorem setW_mem {l:List Write} {w x:Write} (h:x∈setW l w):x=w∨x∈l:=by
 unfold setW at h
 split at h
 ·exact (List.mem_or_eq_of_mem_set h).elim .inr .inl
 ·rcases List.mem_append.1 h with h|h
  ·rcases List.mem_append.1 h with h|h
   ·exact .inr (List.mem_of_mem_take h)
   ·exact .inl (by simpa using h)
  ·exact .inr (List.mem_of_mem_drop h)
theorem setW_keys {l:List Write} {w:Write} (h:(l.map (·.Key)).Nodup):((setW l w).map (·.Key)).Nodup:=by
 unfold setW
 split
 ·rename_i ha
  have hlt:l.findIdx (keyB w.Key)<l.length:=List.findIdx_lt_length_of_exists (by simpa [List.any_eq_true] using ha)
  have hk:l[l.findIdx (keyB w.Key)].Key=w.Key:=by simpa [keyB] using List.findIdx_getElem (xs:=l) (p:=keyB w.Key) (w:=hlt)
  have e:(l.set (l.findIdx (keyB w.Key)) w).map (·.Key)=l.map (·.Key):=by
   rw [List.map_set]
   refine List.ext_getElem (by simp) fun i h1 h2=> ?_
   rw [List.getElem_set]
   split
   ·rename_i e;subst e;rw [List.getElem_map,hk]
   ·rfl
  rw [e];exact h
 ·rename_i ha
  have hn: ∀y∈l,y.Key≠w.Key:=by
   intro y hy e
   exact ha (List.any_eq_true.2 ⟨y,hy,decide_eq_true e⟩)
  have p:(l.take (l.findIdx (gtB w))++[w]++l.drop (l.findIdx (gtB w))).Perm (w::l):=by
   have h1:(l.take (l.findIdx (gtB w))++[w]).Perm (w::l.take (l.findIdx (gtB w))):=List.perm_append_comm
   have h2:=h1.append_right (l.drop (l.findIdx (gtB w)))
   rw [List.cons_append,List.take_append_drop] at h2
   exact h2
  refine (p.map (·.Key)).nodup_iff.2 ?_
  rw [List.map_cons,List.nodup_cons]
  refine ⟨fun hm=> ?_,h⟩
  obtain ⟨y,hy,hyk⟩:=List.mem_map.1 hm
  exact hn y hy hyk
theorem setW_ok {l:List Write} {w:Write} (h:WrOk l) (hw:w.Key.length≤32∧w.Val.length≤64) (hb:bigM (setW l w)=false):WrOk (setW l w):=by
 unfold bigM at hb
 simp only [decide_eq_false_iff_not] at hb
 refine ⟨by omega,by omega,setW_keys h.keys,fun x hx=> ?_⟩
 rcases setW_mem hx with rfl|hx
 ·exact hw
 ·exact h.good x hx
theorem setW_len (l:List Write) (w:Write):(setW l w).length≤l.length+1:=by
 unfold setW
 split
 ·simp
 ·simp only [List.length_append,List.length_take,List.length_drop,List.length_cons,List.length_nil];omega
theorem write_good {op:Op_} (hm:mayO op=true) (hk:op.Kind=2∨op.Kind=3):(writeM op).Key.length≤32∧(writeM op).Val.length≤64:=by
 unfold mayO at hm
 unfold writeM
 rcases hk with h|h
 ·rw [if_pos h] at hm
  rw [if_neg (by omega)]
  have:=of_decide_eq_true hm
  exact ⟨this.2.1,this.2.2⟩
 ·rw [if_neg (by omega),if_pos (.inr h)] at hm
  rw [if_pos h]
  have:=of_decide_eq_true hm
  exact ⟨this.2,by simp⟩
theorem findT_mem {T:List Txn} {id:Int} {t:Txn} (h:T.find? (idB id)=some t):t∈T∧t.Id=id:=⟨List.mem_of_find?_eq_some h,by simpa using List.find?_some h⟩
theorem ids_eq {T:List Txn} (hn:(T.map (·.Id)).Nodup) {a b:Txn} (ha:a∈T) (hb:b∈T) (h:a.Id=b.Id):a=b:=by
 induction T with
 |nil=>cases ha
 |cons x r ih=>
  have hn':=List.nodup_cons.1 (by simpa using hn:(x.Id::r.map (·.Id)).Nodup)
  rcases List.mem_cons.1 ha with ha|ha<;>rcases List.mem_cons.1 hb with hb|hb
  ·rw [ha,hb]
  ·exact absurd (by rw [←ha,h];exact List.mem_map_of_mem hb) hn'.1
  ·exact absurd (by rw [←hb,←h];exact List.mem_map_of_mem ha) hn'.1
  ·exact ih hn'.2 ha hb
theorem findT_of {T:List Txn} (hn:(T.map (·.Id)).Nodup) {t:Txn} (h:t∈T):T.find? (idB t.Id)=some t:=by
 cases hf:T.find? (idB t.Id) with
 |none=>exact absurd (decide_eq_true rfl) (List.find?_eq_none.1 hf t h)
 |some u=>obtain ⟨h1,h2⟩:=findT_mem hf;rw [ids_eq hn h1 h h2]
theorem putT_ids (T:List Txn) (u:Txn):(putT T u).map (·.Id)=T.map (·.Id):=by
 unfold putT
 rw [List.map_map]
 refine List.map_congr_left fun t _=> ?_
 simp only [Function.comp]
 split
 ·rename_i h;exact h.symm
 ·rfl
theorem putT_len (T:List Txn) (u:Txn):(putT T u).length=T.length:=by unfold putT;simp
theorem putT_self {T:List Txn} (hn:(T.map (·.Id)).Nodup) {t:Txn} (h:t∈T):putT T t=T:=by
 unfold putT
 refine (List.map_congr_left fun u hu=> ?_).trans (List.map_id T)
 split
 ·rename_i e;exact (ids_eq hn hu h e).symm
 ·rfl
theorem putT_put (T:List Txn) {a b:Txn} (h:a.Id=b.Id):putT (putT T a) b=putT T b:=by
 unfold putT
 rw [List.map_map]
 refine List.map_congr_left fun u _=> ?_
 simp only [Function.comp]
 by_cases e:u.Id=a.Id
 ·rw [if_pos e,if_pos h,if_pos (e.trans h)]
 ·rw [if_neg e]
theorem putT_mem {T:List Txn} {u x:Txn} (h:x∈putT T u):(x=u∧ ∃t∈T,t.Id=u.Id)∨(x∈T∧x.Id≠u.Id):=by
 obtain ⟨t,ht,e⟩:=List.mem_map.1 h
 split at e
 ·rename_i hi;exact .inl ⟨e.symm,t,ht,hi⟩
 ·rename_i hi;subst e;exact .inr ⟨ht,hi⟩
theorem putT_in {T:List Txn} {u x:Txn} (h:x∈T) (hx:x.Id≠u.Id):x∈putT T u:=List.mem_map.2 ⟨x,h,if_neg hx⟩
theorem putT_at {T:List Txn} {u t:Txn} (h:t∈T) (hx:t.Id=u.Id):u∈putT T u:=List.mem_map.2 ⟨t,h,if_pos hx⟩
theorem does_spec {e:Engine} {t:Txn} {op:Op_} (hn:(e.T.map (·.Id)).Nodup) (ht:t∈e.T) (hw:WrOk t.Writes) (hm:mayO op=true):
 ∃ws,WrOk ws∧(doesO e t op).1= {e with T:=putT e.T {t with Writes:=ws}}∧(doesO e t op).2.Txn=t.Id∧(doesO e t op).2.Over=false:=by
 have same:e= {e with T:=putT e.T {t with Writes:=t.Writes}}:=by
  have:putT e.T {t with Writes:=t.Writes}=e.T:=putT_self hn ht
  rw [this]
 unfold doesO
 split
 ·exact ⟨_,hw,same,rfl,rfl⟩
 split
 ·exact ⟨_,hw,same,rfl,rfl⟩
 split
 ·rename_i hk
  split
  ·exact ⟨_,hw,same,rfl,rfl⟩
  ·rename_i hb
   exact ⟨_,setW_ok hw (write_good hm hk) (by simpa using hb),rfl,rfl,rfl⟩
 ·exact ⟨_,hw,same,rfl,rfl⟩
structure Calmed (t u:Txn):Prop where
 id:u.Id=t.Id
 tok:u.Token=t.Token
 w:u.Waits=false
 wr:WrOk u.Writes
theorem stepG_spec {s:World} {o:Int} (hn:(s.1.T.map (·.Id)).Nodup) {t:Txn} (ht:t∈s.1.T) (ho:t.Id=o) (hw:WrOk t.Writes) (hm:mayO t.Op=true):
 ∃u d,Calmed t u∧stepG s o=({s.1 with T:=putT s.1.T u},s.2++[d])∧d.Txn=o∧d.Over=false:=by
 subst ho
 have hn2:((putT s.1.T (calm t)).map (·.Id)).Nodup:=by rw [putT_ids];exact hn
 obtain ⟨ws,h1,h2,h3,h4⟩:=does_spec (e:= {s.1 with T:=putT s.1.T (calm t)}) (t:=calm t) (op:=t.Op) hn2 (putT_at ht rfl) hw hm
 refine ⟨{calm t with Writes:=ws},_,⟨rfl,rfl,rfl,h1⟩,?_,h3,h4⟩
 unfold stepG
 rw [findT_of hn ht]
 simp only
 rw [h2]
 simp only
 rw [putT_put]
 rfl
theorem fold_spec (os:List Int): ∀(s:World),(s.1.T.map (·.Id)).Nodup→os.Nodup→(∀o∈os,∃t∈s.1.T,t.Id=o)→(∀t∈s.1.T,t.Id∈os→mayO t.Op=true)→(∀t∈s.1.T,WrOk t.Writes)→
 ∃(f:Txn→Txn) (ds:List Done),os.foldl stepG s=({s.1 with T:=s.1.T.map f},s.2++ds)∧ds.map (·.Txn)=os∧(∀d∈ds,d.Over=false)∧(∀t∈s.1.T,t.Id∉os→f t=t)∧(∀t∈s.1.T,t.Id∈os→Calmed t (f t)):=by
 induction os with
 |nil=>intro s hn _ _ _ _;exact ⟨id,[],by simp,rfl,by simp,fun _ _ _=>rfl,fun _ _ h=>by cases h⟩
 |cons o r ih=>
  intro s hn ho hh hm hw
  obtain ⟨ho1,ho2⟩:=List.nodup_cons.1 ho
  obtain ⟨t,ht,hto⟩:=hh o (List.mem_cons_self ..)
  obtain ⟨u,d,k1,k2,k3,k4⟩:=stepG_spec hn ht hto (hw t ht) (hm t ht (by rw [hto];exact List.mem_cons_self ..))
  have huo:u.Id=o:=k1.id.trans hto
  have hn2:((putT s.1.T u).map (·.Id)).Nodup:=by rw [putT_ids];exact hn
  obtain ⟨f,ds,g1,g2,g3,g4,g5⟩:=ih ({s.1 with T:=putT s.1.T u},s.2++[d]) hn2 ho2
   (fun x hx=>by
     obtain ⟨y,hy,hyx⟩:=hh x (List.mem_cons_of_mem _ hx)
     exact ⟨y,putT_in hy (by rw [hyx,huo];intro e;subst e;exact ho1 hx),hyx⟩)
   (fun y hy hyr=>by
     rcases putT_mem hy with ⟨rfl,_⟩|⟨hy,_⟩
     ·rw [huo] at hyr;exact absurd hyr ho1
     ·exact hm y hy (List.mem_cons_of_mem _ hyr))
   (fun y hy=>by
     rcases putT_mem hy with ⟨rfl,_⟩|⟨hy,_⟩
     ·exact k1.wr
     ·exact hw y hy)
  refine ⟨fun y=>if y.Id=o then u else f y,d::ds,?_,by rw [List.map_cons,g2,k3],?_,?_,?_⟩
  ·rw [List.foldl_cons,k2,g1]
   simp only [List.append_assoc,List.cons_append,List.nil_append]
   congr 2
   unfold putT
   rw [List.map_map]
   refine List.map_congr_left fun y hy=> ?_
   simp only [Function.comp,huo]
   split
   ·rw [g4 u (putT_at ht (by rw [hto,huo])) (by rw [huo];exact ho1)]
   ·rfl
  ·intro x hx
   rcases List.mem_cons.1 hx with rfl|hx
   ·exact k4
   ·exact g3 x hx
  ·intro y hy hyo
   simp only
   rw [if_neg (fun e=>hyo (by rw [e];exact List.mem_cons_self ..))]
   exact g4 y (putT_in hy (by rw [huo];intro e;exact hyo (by rw [e];exact List.mem_cons_self ..))) (fun e=>hyo (List.mem_cons_of_mem _ e))
  ·intro y hy hyo
   simp only
   split
   ·rename_i e
    rw [ids_eq hn hy ht (e.trans hto.symm)];exact k1
   ·rename_i e
    exact g5 y (putT_in hy (by rw [huo];exact e)) ((List.mem_cons.1 hyo).resolve_left e)
end Go.Ab
namespace Go.Ab
set_option linter.unusedVariables false
set_option linter.unusedSimpArgs false
theorem settle_perm (n:Nat): ∀(l:Locks) (out:List Int),((cY n l out).1.Queue.map (·.Txn)++(cY n l out).2).Perm (l.Queue.map (·.Txn)++out):=by
 induction n with
 |zero=>intro l out;exact List.Perm.refl _
 |succ n ih=>
  intro l out
  unfold cY
  cases hf:(List.range l.Queue.length).find? (freeI l) with
  |none=>exact List.Perm.refl _
  |some k=>
   have hk:k<l.Queue.length:=by have:=List.mem_of_find?_eq_some hf;simpa using this
   refine (ih (grantM l k) (out++[(claimAt l k).Txn])).trans ?_
   have e:l.Queue=l.Queue.take k++claimAt l k::l.Queue.drop (k+1):=by
    rw [claim_at hk,←List.drop_eq_getElem_cons hk,List.take_append_drop]
   have e2:l.Queue.map (·.Txn)=(l.Queue.take k).map (·.Txn)++(claimAt l k).Txn::(l.Queue.drop (k+1)).map (·.Txn):=by
    conv=>lhs;rw [e]
    simp
   have e3:(grantM l k).Queue.map (·.Txn)=(l.Queue.take k).map (·.Txn)++(l.Queue.drop (k+1)).map (·.Txn):=by unfold grantM;simp
   rw [e2,e3]
   generalize (l.Queue.take k).map (·.Txn)=a
   generalize (l.Queue.drop (k+1)).map (·.Txn)=b
   generalize (claimAt l k).Txn=c
   have p1:(a++b++(out++[c])).Perm (c::(a++b++out)):=by
    rw [←List.append_assoc]
    exact List.perm_append_comm
   have p2:(a++c::b++out).Perm (c::(a++b++out)):=by
    simp [List.append_assoc]
   exact p1.trans p2.symm
theorem free_perm (l:Locks) (v:Int):((bZ l v).1.Queue.map (·.Txn)++(bZ l v).2).Perm ((l.Queue.map (·.Txn)).filter (fun x=> !decide (x=v))):=by
 have h:=settle_perm ((lessL l v).Queue.length+1) (lessL l v) []
 rw [List.append_nil] at h
 have e:(lessL l v).Queue.map (·.Txn)=(l.Queue.map (·.Txn)).filter (fun x=> !decide (x=v)):=by
  unfold lessL
  rw [List.filter_map]
  rfl
 rw [e] at h
 exact h
theorem free_nodup {l:Locks} (h:OneL l) (v:Int):((bZ l v).1.Queue.map (·.Txn)++(bZ l v).2).Nodup:=(free_perm l v).nodup_iff.2 (List.filter_sublist.nodup h)
theorem free_mem (l:Locks) (v x:Int):(x∈(bZ l v).1.Queue.map (·.Txn)∨x∈(bZ l v).2)↔x∈l.Queue.map (·.Txn)∧x≠v:=by
 rw [←List.mem_append,(free_perm l v).mem_iff,List.mem_filter]
 simp
theorem waits_iff (l:Locks) (x:Int):da l x=true↔x∈l.Queue.map (·.Txn):=by
 unfold da
 rw [List.any_eq_true,List.mem_map]
 exact ⟨fun ⟨c,h1,h2⟩=>⟨c,h1,of_decide_eq_true h2⟩,fun ⟨c,h1,h2⟩=>⟨c,h1,decide_eq_true h2⟩⟩
theorem free_parts (l:Locks) (v:Int):(∀h∈(bZ l v).1.Held,(h∈l.Held∧h.Txn≠v)∨h.Txn∈(bZ l v).2)∧(bZ l v).1.Queue.Sublist l.Queue:=by
 obtain ⟨g,e1,e2,e3,e4⟩:=settle_parts ((lessL l v).Queue.length+1) (lessL l v) []
 refine ⟨fun h hh=> ?_,e4.trans List.filter_sublist⟩
 have hh':h∈(lessL l v).Held++g:=by rw [←e1];exact hh
 rcases List.mem_append.1 hh' with hh|hh
 ·obtain ⟨h1,h2⟩:=List.mem_filter.1 hh
  exact .inl ⟨h1,by simpa using h2⟩
 ·right
  have e2':(bZ l v).2=[]++g.map (fun h=>h.Txn):=e2
  rw [e2',List.nil_append]
  exact List.mem_map_of_mem hh
theorem lsm_of {n:Nat} {l:Locks} (h:LInv n l) (hn:n≤1000000):LSm l:=by
 have h1:=h.len
 have h2:=h.few
 refine ⟨by omega,?_⟩
 have:l.Queue.length*(l.Held.length+l.Queue.length)≤16*1000000:=Nat.mul_le_mul h2 (by omega)
 omega
theorem linv_free0 {n:Nat} {l:Locks} (hn:n≤1000000) (h:LInv n l) (v:Int):LInv n (bZ l v).1:=by
 have h1:=linv_free hn h v
 have h2:=(free_ok h.ok (lsm_of h hn) v).2.2
 have h3:=h.len
 exact ⟨h1.ok,by omega,h1.apart,h1.wait,h1.one,h1.few⟩
structure LT (L:Locks) (T:List Txn):Prop where
 wait: ∀t∈T,t.Waits=da L t.Id
 que: ∀c∈L.Queue,∃t∈T,t.Id=c.Txn
 held: ∀h∈L.Held,∃t∈T,t.Id=h.Txn
structure CInv (n:Nat) (e:Engine):Prop where
 lock:LInv n e.L
 ids:(e.T.map (·.Id)).Pairwise (· < ·)
 pos: ∀t∈e.T,1≤t.Id∧t.Id<e.Next
 few:e.T.length≤6
 lt:LT e.L e.T
 wr: ∀t∈e.T,WrOk t.Writes
 op: ∀t∈e.T,t.Waits=true→mayO t.Op=true
theorem CInv.nd {n:Nat} {e:Engine} (h:CInv n e):(e.T.map (·.Id)).Nodup:=h.ids.imp (fun h=>by omega)
def cntD (ds:List Done) (id:Int):Nat:=(ds.filter (fun d=>decide (d.Txn=id))).length
theorem cntD_none {ds:List Done} {id:Int} (h: ∀d∈ds,d.Txn≠id):cntD ds id=0:=by
 unfold cntD
 rw [List.filter_eq_nil_iff.2 (fun d hd=>by simpa using h d hd)]
 rfl
theorem cntD_append (a b:List Done) (id:Int):cntD (a++b) id=cntD a id+cntD b id:=by unfold cntD;rw [List.filter_append,List.length_append]
theorem cntD_one {ds:List Done} {id:Int} (hn:(ds.map (·.Txn)).Nodup) (h:id∈ds.map (·.Txn)):cntD ds id=1:=by
 induction ds with
 |nil=>cases h
 |cons d r ih=>
  have hn':=List.nodup_cons.1 (by simpa using hn:(d.Txn::r.map (·.Txn)).Nodup)
  have e:cntD (d::r) id=(if d.Txn=id then 1 else 0)+cntD r id:=by
   unfold cntD
   rw [List.filter_cons]
   split
   ·rename_i hc;rw [if_pos (of_decide_eq_true hc),List.length_cons];omega
   ·rename_i hc;rw [if_neg (fun e=>hc (decide_eq_true e))];omega
  rw [e]
  by_cases hd:d.Txn=id
  ·rw [if_pos hd,cntD_none]
   intro x hx hxi
   exact hn'.1 (by rw [hd,←hxi];exact List.mem_map_of_mem hx)
  ·rw [if_neg hd]
   have:id∈r.map (·.Txn):=by
    rw [List.map_cons] at h
    exact (List.mem_cons.1 h).resolve_left (fun e=>hd e.symm)
   rw [ih hn'.2 this]
theorem cntD_pos {ds:List Done} {id:Int} (h:cntD ds id=1): ∃d∈ds,d.Txn=id:=by
 unfold cntD at h
 obtain ⟨d,hd⟩:=List.exists_mem_of_length_pos (by omega:0<(ds.filter (fun d=>decide (d.Txn=id))).length)
 obtain ⟨h1,h2⟩:=List.mem_filter.1 hd
 exact ⟨d,h1,of_decide_eq_true h2⟩
structure Went (T T':List Txn) (ds:List Done):Prop where
 calm: ∀t∈T,t.Waits=false→t∈T'∧ ∀d∈ds,d.Txn≠t.Id
 wait: ∀t∈T,t.Waits=true→(t∈T'∧ ∀d∈ds,d.Txn≠t.Id)∨(cntD ds t.Id=1∧ ∀u∈T',u.Id=t.Id→u.Waits=false)
 from_: ∀d∈ds,∃t∈T,t.Id=d.Txn∧t.Waits=true
 back: ∀u∈T',∃t∈T,t.Id=u.Id∧t.Token=u.Token∧(t.Waits=false→u=t)
 gone: ∀t∈T,(∀u∈T',u.Id≠t.Id)→ ∃d∈ds,d.Txn=t.Id∧d.Over=true
 over: ∀d∈ds,d.Over=true→ ∀u∈T',u.Id≠d.Txn
 toks:(T'.map (·.Token)).Sublist (T.map (·.Token))
 ids:(T'.map (·.Id)).Sublist (T.map (·.Id))
theorem Went.refl (T:List Txn):Went T T []:=⟨fun t ht _=>⟨ht,by simp⟩,fun t ht _=>.inl ⟨ht,by simp⟩,by simp,fun u hu=>⟨u,hu,rfl,rfl,fun _=>rfl⟩,fun t ht h=>absurd rfl (h t ht),by simp,List.Sublist.refl _,List.Sublist.refl _⟩
theorem Went.trans {A B C:List Txn} {a b:List Done} (hn:(A.map (·.Id)).Nodup) (h:Went A B a) (k:Went B C b):Went A C (a++b):=by
 have hB:(B.map (·.Id)).Nodup:=h.ids.nodup hn
 have fromB: ∀d∈b,∃t∈A,t.Id=d.Txn∧t.Waits=true:=by
  intro d hd
  obtain ⟨u,hu,h1,h2⟩:=k.from_ d hd
  obtain ⟨t,ht,g1,g2,g3⟩:=h.back u hu
  refine ⟨t,ht,g1.trans h1,?_⟩
  cases hw:t.Waits with
  |true=>rfl
  |false=>rw [g3 hw,hw] at h2;cases h2
 refine ⟨fun t ht hw=> ?_,fun t ht hw=> ?_,fun d hd=> ?_,fun u hu=> ?_,fun t ht hg=> ?_,fun d hd ho=> ?_,k.toks.trans h.toks,k.ids.trans h.ids⟩
 ·obtain ⟨h1,h2⟩:=h.calm t ht hw
  obtain ⟨k1,k2⟩:=k.calm t h1 hw
  exact ⟨k1,fun d hd=>(List.mem_append.1 hd).elim (h2 d) (k2 d)⟩
 ·rcases h.wait t ht hw with ⟨h1,h2⟩|⟨h1,h2⟩
  ·rcases k.wait t h1 hw with ⟨k1,k2⟩|⟨k1,k2⟩
   ·exact .inl ⟨k1,fun d hd=>(List.mem_append.1 hd).elim (h2 d) (k2 d)⟩
   ·exact .inr ⟨by rw [cntD_append,cntD_none h2,k1],k2⟩
  ·refine .inr ⟨?_,fun u hu hi=> ?_⟩
   ·rw [cntD_append,h1,cntD_none]
    intro d hd e
    obtain ⟨u,hu,g1,g2⟩:=k.from_ d hd
    rw [h2 u hu (g1.trans e)] at g2;cases g2
   ·obtain ⟨v,hv,g1,g2,g3⟩:=k.back u hu
    have hv2:=h2 v hv (g1.trans hi)
    rw [g3 hv2];exact hv2
 ·rcases List.mem_append.1 hd with hd|hd
  ·exact h.from_ d hd
  ·exact fromB d hd
 ·obtain ⟨v,hv,g1,g2,g3⟩:=k.back u hu
  obtain ⟨t,ht,e1,e2,e3⟩:=h.back v hv
  refine ⟨t,ht,e1.trans g1,e2.trans g2,fun hw=> ?_⟩
  have:=e3 hw
  rw [g3 (by rw [this];exact hw),this]
 ·by_cases hB1: ∃v∈B,v.Id=t.Id
  ·obtain ⟨v,hv,hi⟩:=hB1
   obtain ⟨d,hd,g1,g2⟩:=k.gone v hv (fun u hu=>by rw [hi];exact hg u hu)
   exact ⟨d,List.mem_append_right _ hd,g1.trans hi,g2⟩
  ·obtain ⟨d,hd,g1,g2⟩:=h.gone t ht (fun u hu e=>hB1 ⟨u,hu,e⟩)
   exact ⟨d,List.mem_append_left _ hd,g1,g2⟩
 ·intro u hu e
  rcases List.mem_append.1 hd with hd|hd
  ·obtain ⟨v,hv,g1,_⟩:=k.back u hu
   exact h.over d hd ho v hv (g1.trans e)
  ·exact k.over d hd ho u hu e
theorem cf {T:List Txn} {id:Int} {t:Txn}:t∈outT T id↔t∈T∧t.Id≠id:=by unfold outT;rw [List.mem_filter];simp
theorem goes_spec {n:Nat} (hn:n≤1000000) {s:World} (h:CInv n s.1) (id:Int): ∃ds,CInv n (goesM s id).1∧(goesM s id).2=s.2++ds∧Went (outT s.1.T id) (goesM s id).1.T ds∧(goesM s id).1.L=(bZ s.1.L id).1∧
 (goesM s id).1.X=s.1.X∧(goesM s id).1.Next=s.1.Next∧(goesM s id).1.Now=s.1.Now∧(∀d∈ds,d.Over=false):=by
 have hT:((outT s.1.T id).map (·.Id)).Sublist (s.1.T.map (·.Id)):=List.Sublist.map _ List.filter_sublist
 have hlt:=h.lt
 have hND:=free_nodup h.lock.one id
 have hnd:=List.nodup_append.1 hND
 have hmem:=free_mem s.1.L id
 have wt: ∀t∈outT s.1.T id,t.Id∈(bZ s.1.L id).2→t.Waits=true:=by
  intro t ht hi
  obtain ⟨h1,h2⟩:=cf.1 ht
  rw [hlt.wait t h1,waits_iff]
  exact ((hmem t.Id).1 (.inr hi)).1
 obtain ⟨f,ds,g1,g2,g3,g4,g5⟩:=fold_spec (bZ s.1.L id).2 ({s.1 with L:=(bZ s.1.L id).1,T:=outT s.1.T id},s.2) (hT.nodup h.nd) hnd.2.1
  (fun o ho=>by
    obtain ⟨h1,h2⟩:=(hmem o).1 (.inr ho)
    obtain ⟨c,hc,hco⟩:=List.mem_map.1 h1
    obtain ⟨t,ht,hti⟩:=hlt.que c hc
    exact ⟨t,cf.2 ⟨ht,by rw [hti,hco];exact h2⟩,hti.trans hco⟩)
  (fun t ht hi=>h.op t (cf.1 ht).1 (wt t ht hi))
  (fun t ht=>h.wr t (cf.1 ht).1)
 simp only at g1 g4 g5
 have e0:goesM s id=({s.1 with L:=(bZ s.1.L id).1,T:=(outT s.1.T id).map f},s.2++ds):=g1
 have fid: ∀t∈outT s.1.T id,(f t).Id=t.Id∧(f t).Token=t.Token:=by
  intro t ht
  by_cases hi:t.Id∈(bZ s.1.L id).2
  ·exact ⟨(g5 t ht hi).id,(g5 t ht hi).tok⟩
  ·rw [g4 t ht hi];exact ⟨rfl,rfl⟩
 have fids:((outT s.1.T id).map f).map (·.Id)=(outT s.1.T id).map (·.Id):=by
  rw [List.map_map];exact List.map_congr_left fun t ht=>(fid t ht).1
 have ftok:((outT s.1.T id).map f).map (·.Token)=(outT s.1.T id).map (·.Token):=by
  rw [List.map_map];exact List.map_congr_left fun t ht=>(fid t ht).2
 have hex: ∀x,x∈(bZ s.1.L id).1.Queue.map (·.Txn)∨x∈(bZ s.1.L id).2→ ∃t∈outT s.1.T id,t.Id=x:=by
  intro x hx
  obtain ⟨h1,h2⟩:=(hmem x).1 hx
  obtain ⟨c,hc,hco⟩:=List.mem_map.1 h1
  obtain ⟨t,ht,hti⟩:=hlt.que c hc
  exact ⟨t,cf.2 ⟨ht,by rw [hti,hco];exact h2⟩,hti.trans hco⟩
 rw [e0]
 refine ⟨ds,⟨linv_free0 hn h.lock id,?_,?_,?_,⟨?_,?_,?_⟩,?_,?_⟩,rfl,⟨?_,?_,?_,?_,?_,?_,?_,?_⟩,rfl,rfl,rfl,rfl,g3⟩
 ·simp only;rw [fids];exact h.ids.sublist hT
 ·intro u hu
  obtain ⟨t,ht,rfl⟩:=List.mem_map.1 hu
  rw [(fid t ht).1]
  exact h.pos t (cf.1 ht).1
 ·simp only [List.length_map]
  exact Nat.le_trans (List.length_filter_le _ _) h.few
 ·intro u hu
  obtain ⟨t,ht,rfl⟩:=List.mem_map.1 hu
  rw [(fid t ht).1]
  simp only
  by_cases hi:t.Id∈(bZ s.1.L id).2
  ·rw [(g5 t ht hi).w]
   symm
   rw [←Bool.not_eq_true,waits_iff]
   intro hq
   exact hnd.2.2 _ hq _ hi rfl
  ·rw [g4 t ht hi,hlt.wait t (cf.1 ht).1,Bool.eq_iff_iff,waits_iff,waits_iff]
   constructor
   ·intro hq
    exact ((hmem t.Id).2 ⟨hq,(cf.1 ht).2⟩).resolve_right hi
   ·intro hq
    exact ((hmem t.Id).1 (.inl hq)).1
 ·intro c hc
  obtain ⟨t,ht,hti⟩:=hex c.Txn (.inl (List.mem_map_of_mem hc))
  exact ⟨f t,List.mem_map_of_mem ht,(fid t ht).1.trans hti⟩
 ·intro c hc
  rcases (free_parts s.1.L id).1 c hc with ⟨h1,h2⟩|h1
  ·obtain ⟨t,ht,hti⟩:=hlt.held c h1
   have ht2:t∈outT s.1.T id:=cf.2 ⟨ht,by rw [hti];exact h2⟩
   exact ⟨f t,List.mem_map_of_mem ht2,(fid t ht2).1.trans hti⟩
  ·obtain ⟨t,ht,hti⟩:=hex c.Txn (.inr h1)
   exact ⟨f t,List.mem_map_of_mem ht,(fid t ht).1.trans hti⟩
 ·intro u hu
  obtain ⟨t,ht,rfl⟩:=List.mem_map.1 hu
  by_cases hi:t.Id∈(bZ s.1.L id).2
  ·exact (g5 t ht hi).wr
  ·rw [g4 t ht hi];exact h.wr t (cf.1 ht).1
 ·intro u hu hw
  obtain ⟨t,ht,rfl⟩:=List.mem_map.1 hu
  by_cases hi:t.Id∈(bZ s.1.L id).2
  ·rw [(g5 t ht hi).w] at hw;cases hw
  ·rw [g4 t ht hi] at hw⊢;exact h.op t (cf.1 ht).1 hw
 ·intro t ht hw
  have hi:t.Id∉(bZ s.1.L id).2:=fun hi=>by rw [wt t ht hi] at hw;cases hw
  refine ⟨List.mem_map.2 ⟨t,ht,g4 t ht hi⟩,fun d hd e=>hi ?_⟩
  rw [←e,←g2];exact List.mem_map_of_mem hd
 ·intro t ht hw
  by_cases hi:t.Id∈(bZ s.1.L id).2
  ·refine .inr ⟨cntD_one (by rw [g2];exact hnd.2.1) (by rw [g2];exact hi),fun u hu e=> ?_⟩
   obtain ⟨v,hv,rfl⟩:=List.mem_map.1 hu
   rw [(fid v hv).1] at e
   exact (g5 v hv (by rw [e];exact hi)).w
  ·refine .inl ⟨List.mem_map.2 ⟨t,ht,g4 t ht hi⟩,fun d hd e=>hi ?_⟩
   rw [←e,←g2];exact List.mem_map_of_mem hd
 ·intro d hd
  have hi:d.Txn∈(bZ s.1.L id).2:=by rw [←g2];exact List.mem_map_of_mem hd
  obtain ⟨t,ht,hti⟩:=hex d.Txn (.inr hi)
  exact ⟨t,ht,hti,wt t ht (by rw [hti];exact hi)⟩
 ·intro u hu
  obtain ⟨t,ht,rfl⟩:=List.mem_map.1 hu
  refine ⟨t,ht,(fid t ht).1.symm,(fid t ht).2.symm,fun hw=>g4 t ht (fun hi=> ?_)⟩
  rw [wt t ht hi] at hw;cases hw
 ·intro t ht hg
  exact absurd (fid t ht).1 (hg (f t) (List.mem_map_of_mem ht))
 ·intro d hd ho
  rw [g3 d hd] at ho;cases ho
 ·simp only;rw [ftok];exact List.Sublist.refl _
 ·simp only;rw [fids];exact List.Sublist.refl _
end Go.Ab
namespace Go.Ab
set_option linter.unusedVariables false
set_option linter.unusedSimpArgs false
theorem nd_eq {α β:Type} (f:α→β) {T:List α} (hn:(T.map f).Nodup) {a b:α} (ha:a∈T) (hb:b∈T) (h:f a=f b):a=b:=by
 induction T with
 |nil=>cases ha
 |cons x r ih=>
  have hn':=List.nodup_cons.1 (by simpa using hn:(f x::r.map f).Nodup)
  rcases List.mem_cons.1 ha with ha|ha<;>rcases List.mem_cons.1 hb with hb|hb
  ·rw [ha,hb]
  ·exact absurd (by rw [←ha,h];exact List.mem_map_of_mem hb) hn'.1
  ·exact absurd (by rw [←hb,←h];exact List.mem_map_of_mem ha) hn'.1
  ·exact ih hn'.2 ha hb
structure Runs (n:Nat) (s r:World) (ds:List Done):Prop where
 c:CInv n r.1
 out:r.2=s.2++ds
 w:Went s.1.T r.1.T ds
 x:r.1.X=s.1.X
 next:r.1.Next=s.1.Next
 now:r.1.Now=s.1.Now
 que:r.1.L.Queue.Sublist s.1.L.Queue
theorem Runs.refl {n:Nat} {s:World} (h:CInv n s.1):Runs n s s []:=⟨h,by simp,Went.refl _,rfl,rfl,rfl,List.Sublist.refl _⟩
theorem Runs.trans {n:Nat} {s r q:World} {a b:List Done} (hn:(s.1.T.map (·.Id)).Nodup) (h:Runs n s r a) (k:Runs n r q b):Runs n s q (a++b):=
 ⟨k.c,by rw [k.out,h.out,List.append_assoc],h.w.trans hn k.w,k.x.trans h.x,k.next.trans h.next,k.now.trans h.now,k.que.trans h.que⟩
theorem ends_spec {n:Nat} (hn:n≤1000000) {s:World} (h:CInv n s.1) {id:Int} (hw:da s.1.L id=true) (err:Int): ∃ds,Runs n s (endsM s id err) ds∧(endsM s id err).1.L=(bZ s.1.L id).1:=by
 obtain ⟨ds,g1,g2,g3,g4,g5,g6,g7,g8⟩:=goes_spec hn (s:=(s.1,s.2++[⟨id,err,[],false,[],true⟩])) h id
 simp only at g1 g2 g3 g4 g5 g6 g7
 obtain ⟨c,hc,hci⟩:=List.mem_map.1 ((waits_iff _ _).1 hw)
 obtain ⟨t0,ht0,hti⟩:=h.lt.que c hc
 have hid:t0.Id=id:=hti.trans hci
 have hw0:t0.Waits=true:=by rw [h.lt.wait t0 ht0,hid];exact hw
 have hsub:(outT s.1.T id).Sublist s.1.T:=List.filter_sublist
 have hout: ∀u∈(endsM s id err).1.T,u.Id≠id:=by
  intro u hu
  obtain ⟨t,ht,h1,_⟩:=g3.back u hu
  rw [←h1];exact (cf.1 ht).2
 have hds: ∀d∈ds,d.Txn≠id:=by
  intro d hd
  obtain ⟨t,ht,h1,_⟩:=g3.from_ d hd
  rw [←h1];exact (cf.1 ht).2
 have ccons: ∀(d:Done) (x:Int),cntD (d::ds) x=(if d.Txn=x then 1 else 0)+cntD ds x:=by
  intro d x
  rw [show d::ds=[d]++ds from rfl,cntD_append]
  congr 1
  unfold cntD
  by_cases hd:d.Txn=x<;>simp [hd]
 refine ⟨⟨id,err,[],false,[],true⟩::ds,⟨g1,by rw [show endsM s id err=goesM (s.1,s.2++[⟨id,err,[],false,[],true⟩]) id from rfl,g2];simp,⟨?_,?_,?_,?_,?_,?_,?_,?_⟩,g5,g6,g7,?_⟩,g4⟩
 ·intro t ht hq
  have hne:t.Id≠id:=fun e=>by rw [ids_eq h.nd ht ht0 (e.trans hid.symm),hw0] at hq;cases hq
  obtain ⟨k1,k2⟩:=g3.calm t (cf.2 ⟨ht,hne⟩) hq
  refine ⟨k1,fun d hd=> ?_⟩
  rcases List.mem_cons.1 hd with rfl|hd
  ·exact fun e=>hne e.symm
  ·exact k2 d hd
 ·intro t ht hq
  by_cases e:t.Id=id
  ·refine .inr ⟨?_,fun u hu hi=>absurd (hi.trans e) (hout u hu)⟩
   rw [ccons,if_pos e.symm,cntD_none (fun d hd=>by rw [e];exact hds d hd)]
  ·rcases g3.wait t (cf.2 ⟨ht,e⟩) hq with ⟨k1,k2⟩|⟨k1,k2⟩
   ·refine .inl ⟨k1,fun d hd=> ?_⟩
    rcases List.mem_cons.1 hd with rfl|hd
    ·exact fun e2=>e e2.symm
    ·exact k2 d hd
   ·refine .inr ⟨?_,k2⟩
    rw [ccons,if_neg (fun e2=>e e2.symm),k1]
 ·intro d hd
  rcases List.mem_cons.1 hd with rfl|hd
  ·exact ⟨t0,ht0,hid,hw0⟩
  ·obtain ⟨t,ht,h1,h2⟩:=g3.from_ d hd
   exact ⟨t,(cf.1 ht).1,h1,h2⟩
 ·intro u hu
  obtain ⟨t,ht,h1,h2,h3⟩:=g3.back u hu
  exact ⟨t,(cf.1 ht).1,h1,h2,h3⟩
 ·intro t ht hg
  by_cases e:t.Id=id
  ·exact ⟨_,List.mem_cons_self ..,e.symm,rfl⟩
  ·obtain ⟨d,hd,h1,h2⟩:=g3.gone t (cf.2 ⟨ht,e⟩) hg
   exact ⟨d,List.mem_cons_of_mem _ hd,h1,h2⟩
 ·intro d hd ho u hu
  rcases List.mem_cons.1 hd with rfl|hd
  ·exact hout u hu
  ·exact g3.over d hd ho u hu
 ·exact g3.toks.trans (hsub.map _)
 ·exact g3.ids.trans (hsub.map _)
 ·rw [show (endsM s id err).1.L=(bZ s.1.L id).1 from g4];exact (free_parts s.1.L id).2
theorem vict_in {l:Locks} {t:Int} (h:(victM l t).2=true):(victM l t).1∈ringM l t:=by
 unfold victM at h⊢
 split at h
 ·cases h
 ·rename_i hne;rw [if_neg hne];exact last_mem hne
theorem ring_waits {l:Locks} {t x:Int} (h:x∈ringM l t):da l x=true:=by
 obtain ⟨c,hc,hx⟩:=rch_from ((ringM_mem l t x).1 h).2
 rw [waits_iff,←hx];exact List.mem_map_of_mem hc
theorem rings_spec {n:Nat} (hn:n≤1000000) (id:Int) (m:Nat): ∀ {s:World},CInv n s.1→ ∃ds,Runs n s (ringsF m s id) ds:=by
 induction m with
 |zero=>intro s h;exact ⟨[],Runs.refl h⟩
 |succ m ih=>
  intro s h
  unfold ringsF
  split
  ·rename_i hv
   obtain ⟨a,h1,_⟩:=ends_spec hn h (ring_waits (vict_in hv)) 13
   obtain ⟨b,h2⟩:=ih h1.c
   exact ⟨a++b,h1.trans h.nd h2⟩
  ·exact ⟨[],Runs.refl h⟩
theorem ask_cases (l:Locks) (id:Int) (w:Want) (u:Int):((askM l id w u).2≠0∧(askM l id w u).2≠12∧(askM l id w u).1=l)∨
 ((askM l id w u).2=0∧((askM l id w u).1=l∨(askM l id w u).1=⟨l.Held++[⟨id,w⟩],l.Queue⟩)∧da l id=false)∨((askM l id w u).2=12∧(askM l id w u).1=⟨l.Held,l.Queue++[⟨id,w,u⟩]⟩∧da l id=false):=by
 unfold askM
 by_cases q1:id<1∨mayM2 w=false
 ·rw [if_pos q1];exact .inl ⟨by simp,by simp,rfl⟩
 rw [if_neg q1]
 by_cases q2:da l id=true
 ·rw [if_pos q2];exact .inl ⟨by simp,by simp,rfl⟩
 rw [if_neg q2]
 have q2':da l id=false:=by simpa using q2
 by_cases q3:covH l id w=true
 ·rw [if_pos q3];exact .inr (.inl ⟨rfl,.inl rfl,q2'⟩)
 rw [if_neg q3]
 by_cases q4:dv l id w l.Queue.length=[]
 ·rw [if_pos q4];exact .inr (.inl ⟨rfl,.inr rfl,q2'⟩)
 rw [if_neg q4]
 by_cases q5:16≤l.Queue.length
 ·rw [if_pos q5];exact .inl ⟨by simp,by simp,rfl⟩
 ·rw [if_neg q5];exact .inr (.inr ⟨rfl,rfl,q2'⟩)
theorem cinv_put {n m:Nat} {e:Engine} (h:CInv n e) {t u:Txn} (ht:t∈e.T) (hi:u.Id=t.Id) {L:Locks} (hL:LInv m L) (hw:WrOk u.Writes) (ho:u.Waits=true→mayO u.Op=true) (hq:u.Waits=da L t.Id)
 (hother: ∀x,x≠t.Id→da L x=da e.L x) (hque: ∀c∈L.Queue,c∈e.L.Queue∨c.Txn=t.Id) (hheld: ∀c∈L.Held,c∈e.L.Held∨c.Txn=t.Id):CInv m {e with L:=L,T:=putT e.T u}:=by
 have hu:u∈putT e.T u:=putT_at ht hi.symm
 have hex: ∀x,(∃y∈e.T,y.Id=x)→ ∃y∈putT e.T u,y.Id=x:=by
  rintro x ⟨y,hy,rfl⟩
  by_cases hy2:y.Id=u.Id
  ·exact ⟨u,hu,hy2.symm⟩
  ·exact ⟨y,putT_in hy hy2,rfl⟩
 refine ⟨hL,?_,?_,?_,⟨?_,?_,?_⟩,?_,?_⟩
 ·simp only;rw [putT_ids];exact h.ids
 ·intro x hx
  rcases putT_mem hx with ⟨rfl,_⟩|⟨hx,_⟩
  ·rw [hi];exact h.pos t ht
  ·exact h.pos x hx
 ·simp only;rw [putT_len];exact h.few
 ·intro x hx
  simp only
  rcases putT_mem hx with ⟨rfl,_⟩|⟨hx,hne⟩
  ·rw [hi];exact hq
  ·rw [hother x.Id (by rw [←hi];exact hne)];exact h.lt.wait x hx
 ·intro c hc
  rcases hque c hc with hc|hc
  ·exact hex _ (h.lt.que c hc)
  ·exact ⟨u,hu,hi.trans hc.symm⟩
 ·intro c hc
  rcases hheld c hc with hc|hc
  ·exact hex _ (h.lt.held c hc)
  ·exact ⟨u,hu,hi.trans hc.symm⟩
 ·intro x hx
  rcases putT_mem hx with ⟨rfl,_⟩|⟨hx,_⟩
  ·exact hw
  ·exact h.wr x hx
 ·intro x hx hxw
  rcases putT_mem hx with ⟨rfl,_⟩|⟨hx,_⟩
  ·exact ho hxw
  ·exact h.op x hx hxw
theorem putT_toks {T:List Txn} (hn:(T.map (·.Id)).Nodup) {t u:Txn} (ht:t∈T) (hi:u.Id=t.Id) (hk:u.Token=t.Token):(putT T u).map (·.Token)=T.map (·.Token):=by
 unfold putT
 rw [List.map_map]
 refine List.map_congr_left fun x hx=> ?_
 simp only [Function.comp]
 split
 ·rename_i e;rw [hk,ids_eq hn hx ht (e.trans hi)]
 ·rfl
structure Asked (m:Nat) (e:Engine) (id:Int) (r:World):Prop where
 c:CInv m r.1
 own:(cntD r.2 id=1∧((∀u∈r.1.T,u.Id=id→u.Waits=false)∨r.2=[saidE id 9]))∨(cntD r.2 id=0∧ ∃u∈r.1.T,u.Id=id∧u.Waits=true)
 others: ∀d∈r.2,d.Txn≠id→ ∃t∈e.T,t.Id=d.Txn∧t.Waits=true
 stay: ∀t∈e.T,t.Id≠id→t.Waits=false→t∈r.1.T
 back: ∀u∈r.1.T,∃t∈e.T,t.Id=u.Id∧t.Token=u.Token∧(t.Id≠id→t.Waits=false→u=t)
 gone: ∀t∈e.T,(∀u∈r.1.T,u.Id≠t.Id)→ ∃d∈r.2,d.Txn=t.Id∧d.Over=true
 over: ∀d∈r.2,d.Over=true→ ∀u∈r.1.T,u.Id≠d.Txn
 toks:(r.1.T.map (·.Token)).Sublist (e.T.map (·.Token))
 ids:(r.1.T.map (·.Id)).Sublist (e.T.map (·.Id))
 next:r.1.Next=e.Next
 now:r.1.Now=e.Now
 que: ∀c∈r.1.L.Queue,c∈e.L.Queue∨c.Until=bT e.Now
theorem CInv.mono {n m:Nat} {e:Engine} (h:CInv n e) (hm:n≤m):CInv m e:=⟨⟨h.lock.ok,Nat.le_trans h.lock.len hm,h.lock.apart,h.lock.wait,h.lock.one,h.lock.few⟩,h.ids,h.pos,h.few,h.lt,h.wr,h.op⟩
theorem asked_none {n:Nat} {e:Engine} (h:CInv n e) {id err:Int} (hw:(∀t∈e.T,t.Id=id→t.Waits=false)∨err=9):Asked (n+1) e id (e,[saidE id err]):=by
 refine ⟨h.mono (by omega),.inl ⟨by simp [cntD],hw.imp (fun h=>h) (fun h=>by rw [h])⟩,?_,fun t ht _ _=>ht,fun u hu=>⟨u,hu,rfl,rfl,fun _ _=>rfl⟩,fun t ht hg=>absurd rfl (hg t ht),?_,List.Sublist.refl _,List.Sublist.refl _,rfl,rfl,fun c hc=>.inl hc⟩
 ·intro d hd hne
  simp at hd;subst hd;exact absurd rfl hne
 ·intro d hd ho
  simp at hd;subst hd;cases ho
theorem askE_end {n:Nat} (hn:n≤1000000) {e:Engine} (h:CInv n e) {t:Txn} (ht:t∈e.T) (hw:t.Waits=false) (X:Store) (err:Int):Asked (n+1) e t.Id (endsM ({e with X:=X},[]) t.Id err)∧(endsM ({e with X:=X},[]) t.Id err).1.X=X∧
 (∀u∈(endsM ({e with X:=X},[]) t.Id err).1.T,u.Id≠t.Id)∧((endsM ({e with X:=X},[]) t.Id err).1.T.map (·.Token)).Sublist ((outT e.T t.Id).map (·.Token))∧ ∃ds,(endsM ({e with X:=X},[]) t.Id err).2=⟨t.Id,err,[],false,[],true⟩::ds:=by
 have h0:CInv n {e with X:=X}:=⟨h.lock,h.ids,h.pos,h.few,h.lt,h.wr,h.op⟩
 obtain ⟨ds,g1,g2,g3,g4,g5,g6,g7,g8⟩:=goes_spec hn (s:=({e with X:=X},[⟨t.Id,err,[],false,[],true⟩])) h0 t.Id
 have er:endsM ({e with X:=X},[]) t.Id err=goesM ({e with X:=X},[⟨t.Id,err,[],false,[],true⟩]) t.Id:=rfl
 simp only at g1 g2 g3 g4 g5 g6 g7
 rw [er]
 have hout: ∀u∈(goesM ({e with X:=X},[⟨t.Id,err,[],false,[],true⟩]) t.Id).1.T,u.Id≠t.Id:=by
  intro u hu
  obtain ⟨v,hv,h1,_⟩:=g3.back u hu
  rw [←h1];exact (cf.1 hv).2
 refine ⟨⟨g1.mono (by omega),.inl ⟨?_,.inl fun u hu hi=>absurd hi (hout u hu)⟩,?_,?_,?_,?_,?_,g3.toks.trans (List.Sublist.map _ List.filter_sublist),g3.ids.trans (List.Sublist.map _ List.filter_sublist),g6,g7,?_⟩,g5,hout,g3.toks,ds,by rw [g2];rfl⟩
 ·have hd0: ∀d∈ds,d.Txn≠t.Id:=fun d hd=>by
   obtain ⟨v,hv,h1,_⟩:=g3.from_ d hd
   rw [←h1];exact (cf.1 hv).2
  rw [g2,cntD_append,cntD_none hd0]
  simp [cntD]
 ·intro d hd hne
  rw [g2] at hd
  rcases List.mem_append.1 hd with hd|hd
  ·simp at hd;subst hd;exact absurd rfl hne
  ·obtain ⟨v,hv,h1,h2⟩:=g3.from_ d hd
   exact ⟨v,(cf.1 hv).1,h1,h2⟩
 ·intro v hv hne hvw
  exact (g3.calm v (cf.2 ⟨hv,hne⟩) hvw).1
 ·intro u hu
  obtain ⟨v,hv,h1,h2,h3⟩:=g3.back u hu
  exact ⟨v,(cf.1 hv).1,h1,h2,fun _=>h3⟩
 ·intro v hv hg
  rw [g2]
  by_cases hi:v.Id=t.Id
  ·exact ⟨_,List.mem_append_left _ (by simp;rfl),hi.symm,rfl⟩
  ·obtain ⟨d,hd,h1,h2⟩:=g3.gone v (cf.2 ⟨hv,hi⟩) hg
   exact ⟨d,List.mem_append_right _ hd,h1,h2⟩
 ·intro d hd ho u hu
  rw [g2] at hd
  rcases List.mem_append.1 hd with hd|hd
  ·simp at hd;subst hd;exact hout u hu
  ·exact g3.over d hd ho u hu
 ·intro c hc
  rw [g4] at hc
  exact .inl ((free_parts e.L t.Id).2.subset hc)
theorem askE_wait {n:Nat} {e:Engine} (h:CInv n e) {t:Txn} (ht:t∈e.T) {op:Op_} (hm:mayO op=true) (hL:LInv (n+1) (askM e.L t.Id (wantM op) (bT e.Now)).1) (c1:(askM e.L t.Id (wantM op) (bT e.Now)).2=12):
 CInv (n+1) {e with L:=(askM e.L t.Id (wantM op) (bT e.Now)).1,T:=putT e.T {t with Waits:=true,Op:=op}}:=by
 have c2:(askM e.L t.Id (wantM op) (bT e.Now)).1=⟨e.L.Held,e.L.Queue++[⟨t.Id,wantM op,bT e.Now⟩]⟩:=by
  rcases ask_cases e.L t.Id (wantM op) (bT e.Now) with ⟨_,d2,_⟩|⟨d1,_⟩|⟨_,d2,_⟩
  ·exact absurd c1 d2
  ·rw [c1] at d1;cases d1
  ·exact d2
 have hwq:da (askM e.L t.Id (wantM op) (bT e.Now)).1 t.Id=true:=by rw [c2,waits_iff];simp
 refine cinv_put h ht (u:= {t with Waits:=true,Op:=op}) rfl hL (h.wr t ht) (fun _=>hm) hwq.symm (fun x hx=> ?_) (fun c hc=> ?_) (fun c hc=> ?_)
 ·rw [c2,Bool.eq_iff_iff,waits_iff,waits_iff]
  simp only [List.map_append,List.map_cons,List.map_nil,List.mem_append,List.mem_singleton]
  exact ⟨fun hq=>hq.resolve_right hx,.inl⟩
 ·rw [c2] at hc
  rcases List.mem_append.1 hc with hc|hc
  ·exact .inl hc
  ·simp at hc;subst hc;exact .inr rfl
 ·rw [c2] at hc;exact .inl hc
theorem askE_lock {n:Nat} (hn:n+1≤1000000) {e:Engine} (h:CInv n e) {t:Txn} (ht:t∈e.T) (hw:t.Waits=false) {op:Op_} (hm:mayO op=true) (hid:In64 t.Id) (hwo:wOk (wantM op)):Asked (n+1) e t.Id (locksM (e,[]) t op)∧(locksM (e,[]) t op).1.X=e.X:=by
 have hL:=linv_ask (by omega) h.lock hid hwo (bT e.Now)
 have hwl:da e.L t.Id=false:=by rw [←h.lt.wait t ht];exact hw
 unfold locksM
 simp only
 rcases ask_cases e.L t.Id (wantM op) (bT e.Now) with ⟨c1,c2,c3⟩|⟨c1,c2,_⟩|⟨c1,c2,_⟩
 ·rw [if_neg c1,if_neg c2,c3]
  exact ⟨asked_none h (.inl fun u hu hi=>by rw [ids_eq h.nd hu ht hi];exact hw),rfl⟩
 ·rw [if_pos c1]
  obtain ⟨ws,k1,k2,k3,k4⟩:=does_spec (e:= {e with L:=(askM e.L t.Id (wantM op) (bT e.Now)).1}) (t:=t) (op:=op) h.nd ht (h.wr t ht) hm
  have hq:(askM e.L t.Id (wantM op) (bT e.Now)).1.Queue=e.L.Queue:=by rcases c2 with c2|c2<;>rw [c2]
  have hwq: ∀x,da (askM e.L t.Id (wantM op) (bT e.Now)).1 x=da e.L x:=fun x=>by unfold da;rw [hq]
  have hT: ∀x∈putT e.T {t with Writes:=ws},x= {t with Writes:=ws}∨x∈e.T∧x.Id≠t.Id:=fun x hx=>(putT_mem hx).imp (fun h=>h.1) (fun h=>h)
  rw [k2]
  refine ⟨⟨cinv_put h ht (u:= {t with Writes:=ws}) rfl hL k1 (fun hx=>by rw [show ({t with Writes:=ws}:Txn).Waits=t.Waits from rfl,hw] at hx;cases hx) (by rw [hwq,hwl];exact hw) (fun x _=>hwq x) (fun c hc=>.inl (by rw [←hq];exact hc)) (fun c hc=> ?_),
   .inl ⟨by simp [cntD,k3],.inl fun u hu hi=> ?_⟩,?_,?_,?_,?_,?_,?_,?_,rfl,rfl,fun c hc=>.inl (by rw [←hq];exact hc)⟩,rfl⟩
  ·rcases c2 with c2|c2
   ·rw [c2] at hc;exact .inl hc
   ·rw [c2] at hc
    rcases List.mem_append.1 hc with hc|hc
    ·exact .inl hc
    ·simp at hc;subst hc;exact .inr rfl
  ·rcases hT u hu with rfl|⟨_,hne⟩
   ·exact hw
   ·exact absurd hi hne
  ·intro d hd hne
   simp at hd;subst hd;exact absurd k3 hne
  ·intro v hv hne _
   exact putT_in hv hne
  ·intro u hu
   rcases hT u hu with rfl|⟨hu,_⟩
   ·exact ⟨t,ht,rfl,rfl,fun hne=>absurd rfl hne⟩
   ·exact ⟨u,hu,rfl,rfl,fun _ _=>rfl⟩
  ·intro v hv hg
   exfalso
   by_cases hi:v.Id=t.Id
   ·exact hg _ (putT_at ht rfl) hi.symm
   ·exact hg v (putT_in hv hi) rfl
  ·intro d hd ho
   simp at hd;subst hd;rw [k4] at ho;cases ho
  ·simp only;rw [putT_toks h.nd ht (u:= {t with Writes:=ws}) rfl rfl];exact List.Sublist.refl _
  ·simp only;rw [putT_ids];exact List.Sublist.refl _
 ·rw [if_neg (by rw [c1];decide),if_pos c1]
  have h0:=askE_wait h ht hm hL c1
  obtain ⟨ds,r⟩:=rings_spec (n:=n+1) hn t.Id ((ringM (askM e.L t.Id (wantM op) (bT e.Now)).1 t.Id).length+1) (s:=({e with L:=(askM e.L t.Id (wantM op) (bT e.Now)).1,T:=putT e.T {t with Waits:=true,Op:=op}},[])) h0
  have ro:=r.out
  have rw_:=r.w
  have ht0:({t with Waits:=true,Op:=op}:Txn)∈putT e.T {t with Waits:=true,Op:=op}:=putT_at ht rfl
  simp only [List.nil_append] at ro
  unfold ringsM
  simp only at rw_⊢
  refine ⟨⟨r.c,?_,?_,?_,?_,?_,?_,?_,?_,r.next,r.now,?_⟩,r.x⟩
  ·rw [ro]
   rcases rw_.wait _ ht0 rfl with ⟨k1,k2⟩|⟨k1,k2⟩
   ·exact .inr ⟨cntD_none k2,_,k1,rfl,rfl⟩
   ·exact .inl ⟨k1,.inl k2⟩
  ·intro d hd hne
   rw [ro] at hd
   obtain ⟨v,hv,k1,k2⟩:=rw_.from_ d hd
   rcases putT_mem hv with ⟨rfl,_⟩|⟨hv,_⟩
   ·exact absurd k1.symm hne
   ·exact ⟨v,hv,k1,k2⟩
  ·intro v hv hne hvw
   exact (rw_.calm v (putT_in hv hne) hvw).1
  ·intro u hu
   obtain ⟨v,hv,k1,k2,k3⟩:=rw_.back u hu
   rcases putT_mem hv with ⟨rfl,_⟩|⟨hv,_⟩
   ·exact ⟨t,ht,k1,k2,fun hne=>absurd rfl hne⟩
   ·exact ⟨v,hv,k1,k2,fun _=>k3⟩
  ·intro v hv hg
   rw [ro]
   by_cases hi:v.Id=t.Id
   ·obtain ⟨d,hd,k1,k2⟩:=rw_.gone _ ht0 (fun u hu=>by rw [←hi];exact hg u hu)
    exact ⟨d,hd,k1.trans hi.symm,k2⟩
   ·exact rw_.gone v (putT_in hv hi) hg
  ·rw [ro];exact rw_.over
  ·have:=rw_.toks
   rw [putT_toks h.nd ht (u:= {t with Waits:=true,Op:=op}) rfl rfl] at this
   exact this
  ·have:=rw_.ids
   rw [putT_ids] at this
   exact this
  ·intro c hc
   have:=r.que.subset hc
   simp only at this
   rw [c2] at this
   rcases List.mem_append.1 this with hc|hc
   ·exact .inl hc
   ·simp at hc;subst hc;exact .inr rfl
theorem late_mem (l:Locks) (now x:Int):x∈lateM l now↔ ∃c∈l.Queue,c.Txn=x∧c.Until≤now:=by
 have gen: ∀(q:List Claim) (b:List Int),x∈q.foldl (fun out c=>if c.Until≤now then out++[c.Txn] else out) b↔x∈b∨ ∃c∈q,c.Txn=x∧c.Until≤now:=by
  intro q
  induction q with
  |nil=>intro b;simp
  |cons y r ih=>
   intro b
   rw [List.foldl_cons,ih]
   split
   ·rename_i h
    rw [List.mem_append]
    constructor
    ·rintro ((h1|h1)|⟨c,h1,h2⟩)
     ·exact .inl h1
     ·exact .inr ⟨y,List.mem_cons_self ..,by simpa using (List.mem_singleton.1 h1).symm,h⟩
     ·exact .inr ⟨c,List.mem_cons_of_mem _ h1,h2⟩
    ·rintro (h1|⟨c,h1,h2,h3⟩)
     ·exact .inl (.inl h1)
     ·rcases List.mem_cons.1 h1 with rfl|h1
      ·exact .inl (.inr (by simp [h2]))
      ·exact .inr ⟨c,h1,h2,h3⟩
   ·rename_i h
    constructor
    ·rintro (h1|⟨c,h1,h2⟩)
     ·exact .inl h1
     ·exact .inr ⟨c,List.mem_cons_of_mem _ h1,h2⟩
    ·rintro (h1|⟨c,h1,h2,h3⟩)
     ·exact .inl h1
     ·rcases List.mem_cons.1 h1 with rfl|h1
      ·exact absurd h3 h
      ·exact .inr ⟨c,h1,h2,h3⟩
 have:=gen l.Queue []
 unfold lateM
 rw [this]
 simp
theorem waits_sub {a b:Locks} (h:a.Queue.Sublist b.Queue) {x:Int} (hw:da b x=false):da a x=false:=by
 cases hx:da a x with
 |false=>rfl
 |true=>
  rw [waits_iff] at hx
  rw [←hw,(waits_iff b x).2 ((h.map _).subset hx)]
theorem ticks_spec {n:Nat} (hn:n≤1000000) (os:List Int): ∀ {s:World},CInv n s.1→ ∃ds,Runs n s (os.foldl stepT s) ds∧ ∀o∈os,da (os.foldl stepT s).1.L o=false:=by
 induction os with
 |nil=>intro s h;exact ⟨[],Runs.refl h,by simp⟩
 |cons o r ih=>
  intro s h
  have one: ∃ds,Runs n s (stepT s o) ds∧da (stepT s o).1.L o=false:=by
   unfold stepT
   split
   ·rename_i hw
    obtain ⟨ds,k1,k2⟩:=ends_spec hn h hw 13
    refine ⟨ds,k1,?_⟩
    rw [k2,←Bool.not_eq_true,waits_iff]
    intro hq
    exact ((free_mem s.1.L o o).1 (.inl hq)).2 rfl
   ·rename_i hw
    exact ⟨[],Runs.refl h,by simpa using hw⟩
  obtain ⟨a,k1,k2⟩:=one
  obtain ⟨b,g1,g2⟩:=ih k1.c
  rw [List.foldl_cons]
  refine ⟨a++b,k1.trans h.nd g1,fun x hx=> ?_⟩
  rcases List.mem_cons.1 hx with rfl|hx
  ·exact waits_sub g1.que k2
  ·exact g2 x hx
end Go.Ab
namespace Go.Ab
set_option linter.unusedVariables false
set_option linter.unusedSimpArgs false
structure SInv (X:Store) (T:List Txn):Prop where
 nd:(T.map (·.Token)).Nodup
 tok: ∀k∈T.map (·.Token),hasK X.S.Toks k=false∧1≤k.length∧k.length≤16
 all:X.S.Toks.length+T.length≤64
 sbd:SBd X.S X.S.Toks.length
 kok: ∃tl,KOk X tl
theorem SInv.sub {X:Store} {T T':List Txn} (h:SInv X T) (hs:(T'.map (·.Token)).Sublist (T.map (·.Token))):SInv X T':=by
 have h1:=hs.length_le
 rw [List.length_map,List.length_map] at h1
 exact ⟨hs.nodup h.nd,fun k hk=>h.tok k (hs.subset hk),by have:=h.all;omega,h.sbd,h.kok⟩
theorem SInv.toks {X:Store} {T:List Txn} (h:SInv X T):X.S.Toks.length≤64:=by have:=h.all;omega
theorem SInv.sok {X:Store} {T:List Txn} (h:SInv X T):SOk X.S∧SK X.S∧(dE X.S).length≤6100000:=h.sbd.ok (by have:=h.toks;omega)
theorem SInv.sto {X:Store} {T:List Txn} (h:SInv X T):StoOk X:=by
 obtain ⟨tl,hk⟩:=h.kok
 exact hk.sto h.sbd (by have:=h.toks;omega)
theorem SInv.commit {X:Store} {T:List Txn} (h:SInv X T) {t:Txn} (ht:t∈T) {b:Batch} (hb:b.Token=t.Token):SInv (bK X b).1 (outT T t.Id):=by
 have hs:((outT T t.Id).map (·.Token)).Sublist (T.map (·.Token)):=List.filter_sublist.map _
 have hne: ∀k∈(outT T t.Id).map (·.Token),k≠t.Token:=by
  intro k hk e
  obtain ⟨u,hu,rfl⟩:=List.mem_map.1 hk
  obtain ⟨h1,h2⟩:=cf.1 hu
  exact h2 (by rw [nd_eq _ h.nd h1 ht e])
 have hlen:(outT T t.Id).length+1≤T.length:=by
  exact List.length_filter_lt_length_iff_exists (p:=fun u:Txn=> !decide (u.Id=t.Id)).2 ⟨t,ht,by simp⟩
 obtain ⟨s1,s2⟩:=commit_state X b
 obtain ⟨tl,hk⟩:=h.kok
 have hall:=h.all
 by_cases h0:(bK X b).2=0
 ·obtain ⟨e1,e2⟩:=s2 h0
  have e3:doB X.S b=(⟨applyM X.S.Data b.Writes,putP X.S.Toks b.Token (gaveUp b)⟩,0):=by
   unfold doB at e2⊢
   split at e2
   ·cases e2
   ·rename_i h1
    rw [if_neg h1]
    split at e2
    ·cases e2
    ·rename_i h2;rw [if_neg h2]
  have e4:(bK X b).1.S=⟨applyM X.S.Data b.Writes,putP X.S.Toks b.Token (gaveUp b)⟩:=by rw [e1,e3]
  have hn:hasK X.S.Toks b.Token=false:=by rw [hb];exact (h.tok _ (List.mem_map_of_mem ht)).1
  have e5:(putP X.S.Toks b.Token (gaveUp b)).length=X.S.Toks.length+1:=by unfold putP;rw [if_neg (by simp [hn]),insP_len]
  refine ⟨hs.nodup h.nd,fun k hkk=> ?_,?_,?_,hk.commit b⟩
  ·obtain ⟨g1,g2⟩:=h.tok k (hs.subset hkk)
   refine ⟨?_,g2⟩
   rw [e4]
   simp only
   rw [putP_has,g1,hb,decide_eq_false (fun e=>hne k hkk e.symm)]
   rfl
  ·rw [e4];simp only;rw [e5];omega
  ·have:=h.sbd.step b
   rw [e3] at this
   rw [e4]
   simp only at this⊢
   rw [e5];exact this
 ·have e1:=s1 h0
  refine ⟨hs.nodup h.nd,fun k hkk=> ?_,?_,?_,hk.commit b⟩
  ·rw [e1];exact h.tok k (hs.subset hkk)
  ·rw [e1];omega
  ·rw [e1];exact h.sbd
structure EInv (n:Nat) (e:Engine):Prop where
 c:CInv n e
 s:SInv e.X e.T
 next:1≤e.Next∧e.Next≤(n:Int)+1
 now:0≤e.Now∧e.Now≤18446744073709551615
 late: ∀c∈e.L.Queue,c.Until≤bT e.Now
theorem EInv.mono {n m:Nat} {e:Engine} (h:EInv n e) (hm:n≤m):EInv m e:=⟨h.c.mono hm,h.s,⟨h.next.1,by have:=h.next.2;omega⟩,h.now,h.late⟩
theorem EInv.id64 {n:Nat} {e:Engine} (h:EInv n e) (hn:n≤1000000) {t:Txn} (ht:t∈e.T):In64 t.Id:=by
 have h1:=h.c.pos t ht
 have h2:=h.next.2
 exact ⟨by omega,by omega⟩
theorem until_mono {a b:Int} (h:a≤b) (hb:b≤18446744073709551615):bT a≤bT b:=by unfold bT;split<;>split<;>omega
theorem op_bounds {op:Op_} (hk:op.Key.length≤2000000) (hl:op.Lo.length≤2000000) (hh:op.Hi.length≤2000000):wOk (wantM op):=want_ok hk hl hh
theorem askE_spec {n:Nat} (hn:n+1≤1000000) {e:Engine} (h:EInv n e) (id:Int) {op:Op_} (hk:op.Key.length≤2000000) (hl:op.Lo.length≤2000000) (hh:op.Hi.length≤2000000):
 Asked (n+1) e id (askE e id op)∧SInv (askE e id op).1.X (askE e id op).1.T:=by
 unfold askE
 cases hf:e.T.find? (idB id) with
 |none=>
  have hno: ∀t∈e.T,t.Id≠id:=fun t ht=>by simpa using List.find?_eq_none.1 hf t ht
  exact ⟨asked_none h.c (.inl fun t ht hi=>absurd hi (hno t ht)),h.s⟩
 |some t=>
  obtain ⟨ht,rfl⟩:=findT_mem hf
  simp only
  cases hw:t.Waits with
  |true=>rw [if_pos rfl];exact ⟨asked_none h.c (.inr rfl),h.s⟩
  |false=>
   simp only [Bool.false_eq_true,if_false]
   cases hm:mayO op with
   |false=>
    simp only [if_true]
    exact ⟨asked_none h.c (.inl fun u hu hi=>by rw [ids_eq h.c.nd hu ht hi];exact hw),h.s⟩
   |true=>
    simp only [Bool.true_eq_false,if_false]
    split
    ·have hb:(batchM t op).Token=t.Token:=by unfold batchM;split<;>rfl
     obtain ⟨a1,a2,a3,a4,_⟩:=askE_end (by omega) h.c ht hw (bK e.X (batchM t op)).1 (bK e.X (batchM t op)).2
     exact ⟨a1,by rw [a2];exact (h.s.commit ht hb).sub a4⟩
    ·obtain ⟨a1,a2⟩:=askE_lock hn h.c ht hw hm (h.id64 (by omega) ht) (op_bounds hk hl hh)
     exact ⟨a1,by rw [a2];exact h.s.sub a1.toks⟩
theorem askE_inv {n:Nat} (hn:n+1≤1000000) {e:Engine} (h:EInv n e) (id:Int) {op:Op_} (hk:op.Key.length≤2000000) (hl:op.Lo.length≤2000000) (hh:op.Hi.length≤2000000):EInv (n+1) (askE e id op).1:=by
 obtain ⟨a,s⟩:=askE_spec hn h id hk hl hh
 refine ⟨a.c,s,by rw [a.next];exact ⟨h.next.1,by have:=h.next.2;omega⟩,by rw [a.now];exact h.now,fun c hc=> ?_⟩
 rw [a.now]
 rcases a.que c hc with hc|hc
 ·exact h.late c hc
 ·rw [hc];exact Int.le_refl _
theorem leaveE_spec {n:Nat} (hn:n≤1000000) {e:Engine} (h:EInv n e) {t:Txn} (ht:t∈e.T): ∃ds,leaveE e t.Id=((leaveE e t.Id).1,ds)∧EInv n (leaveE e t.Id).1∧Went (outT e.T t.Id) (leaveE e t.Id).1.T ds∧(leaveE e t.Id).1.L=(bZ e.L t.Id).1∧
 (leaveE e t.Id).1.X=(bK e.X ⟨2,t.Token,[]⟩).1∧(leaveE e t.Id).1.Next=e.Next∧(leaveE e t.Id).1.Now=e.Now∧(∀d∈ds,d.Over=false):=by
 have e0:leaveE e t.Id=goesM ({e with X:=(bK e.X ⟨2,t.Token,[]⟩).1},[]) t.Id:=by
  unfold leaveE;rw [findT_of h.c.nd ht]
 have h0:CInv n {e with X:=(bK e.X ⟨2,t.Token,[]⟩).1}:=⟨h.c.lock,h.c.ids,h.c.pos,h.c.few,h.c.lt,h.c.wr,h.c.op⟩
 obtain ⟨ds,g1,g2,g3,g4,g5,g6,g7,g8⟩:=goes_spec hn (s:=({e with X:=(bK e.X ⟨2,t.Token,[]⟩).1},[])) h0 t.Id
 simp only [List.nil_append] at g1 g2 g3 g4 g5 g6 g7
 rw [e0]
 refine ⟨ds,by rw [←g2],⟨g1,?_,by rw [g6];exact h.next,by rw [g7];exact h.now,fun c hc=> ?_⟩,g3,g4,g5,g6,g7,g8⟩
 ·rw [g5];exact (h.s.commit ht rfl).sub g3.toks
 ·rw [g4] at hc
  rw [g7]
  exact h.late c ((free_parts e.L t.Id).2.subset hc)
theorem leaveE_none {e:Engine} {id:Int} (hf:e.T.find? (idB id)=none):leaveE e id=(e,[]):=by unfold leaveE;rw [hf]
theorem leaveE_inv {n:Nat} (hn:n≤1000000) {e:Engine} (h:EInv n e) (id:Int):EInv n (leaveE e id).1:=by
 cases hf:e.T.find? (idB id) with
 |none=>rw [leaveE_none hf];exact h
 |some t=>
  obtain ⟨ht,rfl⟩:=findT_mem hf
  obtain ⟨ds,_,h2,_⟩:=leaveE_spec hn h ht
  exact h2
theorem tickE_spec {n:Nat} (hn:n≤1000000) {e:Engine} (h:EInv n e) {now:Int} (h1:now≤18446744073709551615):EInv n (tickE e now).1∧Went e.T (tickE e now).1.T (tickE e now).2∧(∀o∈lateM e.L (max e.Now now),da (tickE e now).1.L o=false)∧(tickE e now).1.L.Queue.Sublist e.L.Queue∧
 (tickE e now).1.X=e.X∧(tickE e now).1.Next=e.Next∧(tickE e now).1.Now=max e.Now now:=by
 have h0:CInv n {e with Now:=max e.Now now}:=⟨h.c.lock,h.c.ids,h.c.pos,h.c.few,h.c.lt,h.c.wr,h.c.op⟩
 obtain ⟨ds,r,hw⟩:=ticks_spec hn (lateM e.L (max e.Now now)) (s:=({e with Now:=max e.Now now},[])) h0
 have e0:tickE e now=(lateM e.L (max e.Now now)).foldl stepT ({e with Now:=max e.Now now},[]):=rfl
 rw [←e0] at r hw
 have ro:=r.out
 simp only [List.nil_append] at ro
 have rw_:=r.w
 have hnow:=h.now
 have rn:(tickE e now).1.Now=max e.Now now:=r.now
 refine ⟨⟨r.c,?_,by rw [r.next];exact h.next,by rw [rn];omega,fun c hc=> ?_⟩,by rw [ro];exact rw_,hw,r.que,r.x,r.next,rn⟩
 ·rw [r.x];exact h.s.sub rw_.toks
 ·rw [rn]
  exact Int.le_trans (h.late c (r.que.subset hc)) (until_mono (by omega) (by omega))
theorem begin_tok {e:Engine} {token:Str} (h:e.T.any (fun t=>decide (t.Token=token))=false):token∉e.T.map (·.Token):=by
 intro hm
 obtain ⟨t,ht,hk⟩:=List.mem_map.1 hm
 rw [List.any_eq_false] at h
 exact h t ht (by simp [hk])
theorem beginE_inv {n:Nat} {e:Engine} (h:EInv n e) (token:Str):EInv (n+1) (beginE e token).1:=by
 unfold beginE
 split
 ·exact h.mono (by omega)
 split
 ·exact h.mono (by omega)
 rename_i hlen
 split
 ·exact h.mono (by omega)
 rename_i hk
 split
 ·exact h.mono (by omega)
 rename_i ha
 split
 ·exact h.mono (by omega)
 rename_i h6
 split
 ·exact h.mono (by omega)
 rename_i h64
 have ha':=begin_tok (by simpa using ha)
 have hk':hasK e.X.S.Toks token=false:=by simpa using hk
 have hn:=h.next
 have hnot: ∀x∈e.T.map (·.Id),x<e.Next:=fun x hx=>by
  obtain ⟨t,ht,rfl⟩:=List.mem_map.1 hx
  exact (h.c.pos t ht).2
 have hc:=h.c
 refine ⟨⟨⟨hc.lock.ok,Nat.le_succ_of_le hc.lock.len,hc.lock.apart,hc.lock.wait,hc.lock.one,hc.lock.few⟩,?_,?_,?_,⟨?_,?_,?_⟩,?_,?_⟩,⟨?_,?_,?_,h.s.sbd,h.s.kok⟩,by simp only;omega,h.now,h.late⟩
 ·simp only [List.map_append,List.map_cons,List.map_nil]
  rw [List.pairwise_append]
  exact ⟨hc.ids,by simp,fun a ha b hb=>by simp at hb;subst hb;exact hnot a ha⟩
 ·intro t ht
  simp only
  rcases List.mem_append.1 ht with ht|ht
  ·have:=hc.pos t ht;omega
  ·simp at ht;subst ht;simp only;omega
 ·simp only [List.length_append,List.length_cons,List.length_nil];omega
 ·intro t ht
  rcases List.mem_append.1 ht with ht|ht
  ·exact hc.lt.wait t ht
  ·simp at ht;subst ht
   simp only
   symm
   rw [←Bool.not_eq_true,waits_iff]
   intro hq
   obtain ⟨c,hcq,hcx⟩:=List.mem_map.1 hq
   obtain ⟨u,hu,hux⟩:=hc.lt.que c hcq
   have:=(hc.pos u hu).2
   omega
 ·intro c hcq
  obtain ⟨u,hu,hux⟩:=hc.lt.que c hcq
  exact ⟨u,List.mem_append_left _ hu,hux⟩
 ·intro c hcq
  obtain ⟨u,hu,hux⟩:=hc.lt.held c hcq
  exact ⟨u,List.mem_append_left _ hu,hux⟩
 ·intro t ht
  rcases List.mem_append.1 ht with ht|ht
  ·exact hc.wr t ht
  ·simp at ht;subst ht;exact wrOk_nil
 ·intro t ht hw
  rcases List.mem_append.1 ht with ht|ht
  ·exact hc.op t ht hw
  ·simp at ht;subst ht;cases hw
 ·simp only [List.map_append,List.map_cons,List.map_nil]
  rw [List.nodup_append]
  exact ⟨h.s.nd,by simp,fun a hx b hb e=>by simp at hb;subst hb;subst e;exact ha' hx⟩
 ·intro k hkm
  simp only [List.map_append,List.map_cons,List.map_nil] at hkm
  rcases List.mem_append.1 hkm with hkm|hkm
  ·exact h.s.tok k hkm
  ·simp at hkm;subst hkm;exact ⟨hk',by omega,by omega⟩
 ·simp only [List.length_append,List.length_cons,List.length_nil];omega
theorem withX {n:Nat} {e:Engine} (h:EInv n e) {X:Store} (hS:X.S=e.X.S) (hk: ∃tl,KOk X tl):EInv n {e with X:=X}:=
 ⟨⟨h.c.lock,h.c.ids,h.c.pos,h.c.few,h.c.lt,h.c.wr,h.c.op⟩,⟨h.s.nd,by simp only;rw [hS];exact h.s.tok,by simp only;rw [hS];exact h.s.all,by simp only;rw [hS];exact h.s.sbd,hk⟩,h.next,h.now,h.late⟩
theorem checkE_inv {n:Nat} {e:Engine} (h:EInv n e):EInv n (checkE e).1:=by
 obtain ⟨tl,hk⟩:=h.s.kok
 obtain ⟨⟨tl2,h2,_⟩,_⟩:=hk.check h.s.sok.2.2
 exact withX h (check_S e.X) ⟨tl2,h2⟩
theorem armE_inv {n:Nat} {e:Engine} (h:EInv n e) {fuse:Int} (hf:In64 fuse):EInv n (armE e fuse):=by
 obtain ⟨tl,hk⟩:=h.s.kok
 exact withX h rfl ⟨tl,hk.arm hf⟩
theorem linv_nil (n:Nat):LInv n ⟨[],[]⟩:=⟨⟨by simp,by simp,fun h hm=>by (cases hm),fun c hm=>by (cases hm)⟩,by simp,fun a ha=>by (cases ha),fun k c hk=>by simp at hk,by simp [OneL],by simp⟩
theorem cinv_nil (n:Nat) (X:Store) (next now:Int):CInv n ⟨X,⟨[],[]⟩,[],next,now⟩:=
 ⟨linv_nil n,by simp,by simp,by simp,⟨by simp,by simp,by simp⟩,by simp,by simp⟩
theorem crashE_spec {n:Nat} {e:Engine} (h:EInv n e) (keeps:List Int):(e.X.Down=true∧(crashE e keeps).2=5)∨ ∃y,crashE e keeps=(⟨y,⟨[],[]⟩,[],e.Next,e.Now⟩,0)∧crashK e.X keeps=(y,0)∧y.S=e.X.S∧y.Down=false∧KOk y []∧EInv n (crashE e keeps).1:=by
 obtain ⟨tl,hk⟩:=h.s.kok
 have e0:openK (crashM e.X.D keeps)=crashK e.X keeps:=rfl
 rcases hk.crash keeps with ⟨h1,h2⟩|⟨y,h1,_,h3,h4,h5⟩
 ·left
  have hd:e.X.Down=true:=by
   cases hd:e.X.Down with
   |true=>rfl
   |false=>
    obtain ⟨b,r,pre,cur,_,k2⟩:=hk.disk
    exact absurd (k2 hd).1 h1
  refine ⟨hd,?_⟩
  unfold crashE newE
  rw [e0,h2]
  rfl
 ·right
  have ec:crashE e keeps=(⟨y,⟨[],[]⟩,[],e.Next,e.Now⟩,0):=by
   unfold crashE newE
   rw [e0,h1]
   rfl
  refine ⟨y,ec,h1,h4,h5,h3,?_⟩
  rw [ec]
  refine ⟨cinv_nil n y _ _,⟨by simp,by simp,?_,?_,⟨[],h3⟩⟩,h.next,h.now,by simp⟩
  ·simp only [h4,List.length_nil];have:=h.s.toks;omega
  ·simp only [h4];exact h.s.sbd
theorem newE_inv {room:Int} (hr:In64 room) (h0:0≤room): ∃y,newE (newM room).1=(⟨y,⟨[],[]⟩,[],1,0⟩,0)∧EInv 0 ⟨y,⟨[],[]⟩,[],1,0⟩∧y.S=noState∧y.Down=false:=by
 obtain ⟨y,o1,o2,o3,o4,o5⟩:=KOk.new hr h0
 have e:newE (newM room).1=(⟨y,⟨[],[]⟩,[],1,0⟩,0):=by unfold newE;rw [o1];rfl
 refine ⟨y,e,⟨cinv_nil 0 y _ _,⟨by simp,by simp,?_,?_,⟨[],o2⟩⟩,by simp,by simp,by simp⟩,o3,o4⟩
 ·simp only [o3];simp [noState]
 ·simp only [o3];exact no_SBd
end Go.Ab
