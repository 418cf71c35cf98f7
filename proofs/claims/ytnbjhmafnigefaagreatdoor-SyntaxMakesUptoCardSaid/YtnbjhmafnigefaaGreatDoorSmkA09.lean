/- .. -/
import Derived.Test.YtnbjhmafnigefaaGreatDoorSmkA08
open Go.Proofs.Tryz
set_option maxRecDepth 100000
set_option maxHeartbeats 16000000
namespace Go.Proofs.YtnbjhmafnigefaaGreatDoor
section
open Go Go.RowKit
namespace Sy
open Dat
def bindsL:List Dat→Option (List Dat × List Dat)
 | []=>some ([],[])
 | x::l=>match (split x).1 with
  | [a,b]=>if (split x).2.kind=4 then (bindsL l).map fun p=>(a::p.1,b::p.2) else none
  | _=>none
def binds (x:Dat):Option (List Dat × List Dat):=if (split x).2.kind=4 then bindsL (split x).1 else none
theorem split_parts (x:Dat) (hs:shaped x=true):(∀y∈(split x).1,shaped y=true∧all y≤all x)∧shaped (split x).2=true:=by
 induction x using Dat.ind with
 | h k n d s l ih=>
  by_cases hk:k=6
  ·obtain ⟨a,b,rfl,ha,hb⟩:=shaped_pair hs hk
   rw[split_pair hk]
   obtain ⟨h1,h2⟩:=ih b (by simp) hb
   refine ⟨fun y hy=>?_,h2⟩
   have hb2:all b≤all (mk k n d s [a,b]):=by simp only[all,allL];omega
   rcases List.mem_cons.1 hy with rfl | hy
   ·exact ⟨ha,by simp only[all,allL];omega⟩
   ·exact ⟨(h1 y hy).1,Nat.le_trans (h1 y hy).2 hb2⟩
  ·rw[split_other hk]
   exact ⟨fun y hy=>by simp at hy,hs⟩
end Sy
theorem Shown.flip (W:World) {S:Nat→Prop} {v1 v2:Value}:Shown W (SR (SR S v2) v1) W (SR (SR S v1) v2):=Shown.less W fun b _ hb=>by
 rcases hb with (hb | hb) | hb
 ·exact .inl (.inl hb)
 ·exact .inr hb
 ·exact .inl (.inr hb)
theorem zbe {o:Oper} (j:Nat) (h3:(o.after.any fun e=>Region.binds .any e&&e.on==j)=true):∃e∈o.after,Region.binds .any e=true∧e.on=j:=by
 rw[Array.any_eq_true'] at h3
 obtain ⟨e,he,hb⟩:=h3
 simp only[Bool.and_eq_true,beq_iff_eq] at hb
 exact ⟨e,he,hb.1,hb.2⟩
def BindPost (S:Nat→Prop) (r:Option (List Dat × List Dat)) (w:World) (e:Ending) (w':World):Prop:=
 ∃(ln lv:List Dat) (vn vv:Value) (ok:Bool),e=.returned (.tuple #[vn,vv,.bool ok])∧GrownS w' (SR S vv) w.heap.size ln vn∧GrownS w' (SR S vn) w.heap.size lv vv∧Below w.heap.size w w'∧(ok=true→r=some (ln,lv))∧(ok=false→r=none)∧lv.length≤100000
def BiR (u2 u3 sl pa va pb vb:Value) (i:Nat) (v:Value):Prop:=match i with
 | 0=>v=u2
 | 1=>v=sl
 | 2=>v=pa
 | 3=>v=va
 | 6=>v=u3
 | 7=>v=sl
 | 8=>v=pb
 | 9=>v=vb
 | _=>True
def BiI (S:Nat→Prop) (l:List Dat) (w:World) (g:Nat) (vn vv iv:Value) (wr:World):Prop:=Hid (∃(i:Nat) (dn dv:List Dat),iv=.int .i64 i∧g=l.length-i∧i≤l.length∧dn.length=i∧dv.length=i∧GrownS wr (SR S vv) w.heap.size dn vn∧GrownS wr (SR S vn) w.heap.size dv vv∧Below w.heap.size w wr∧Sy.bindsL l=(Sy.bindsL (l.drop i)).map fun p=>(dn++p.1,dv++p.2))
theorem zbv (S:Nat→Prop) (x:Dat) (v:Value) (B:Nat) (w:World) (hS:∀b,S b→b<w.heap.size) (hv:RepD (hide w S) B x v) (hB:B≤w.heap.size) (hsh:Dat.shaped x=true) (hal:Dat.all x≤100000) :
  Calls prog 76 #[v] w (BindPost S (Sy.binds x) w):=by
 obtain ⟨k,n,d,st,o,len,cap,rfl⟩:=zae hv.unhide
 obtain ⟨W0,hW0⟩:∃W0,w.alloc (.cells #[.int .i64 k,.int .i64 n,.int .i64 d,.string st,.slice o len cap] 26)=W0:=⟨_,rfl⟩
 have hb:Box5 W0 w.heap.size 26 (.int .i64 k) (.int .i64 n) (.int .i64 d) (.string st) (.slice o len cap):=by rw[←hW0];exact Box5.new w _ _ _ _ _ _
 have hbl:Below w.heap.size w W0:=by rw[←hW0];exact Below.one _ _
 obtain ⟨r,hr⟩:∃r,((Sy.split x).2.kind==4)=r:=⟨_,rfl⟩
 have HS0:=zh (fun b h=>Nat.lt_of_lt_of_le (hS b h) hbl.size)
 have HC:=zh (zbm S x (.agg #[.int .i64 k,.int .i64 n,.int .i64 d,.string st,.slice o len cap]) B W0 r hr HS0.out (hv.kept (zby (hbl.mono hB))) (Nat.le_trans hB hbl.size) hsh hal)
 have HPT:=zh (Sy.split_parts x hsh).1
 have HLE:=zh (za4 x)
 obtain ⟨L,hL⟩:∃L,(Sy.split x).1=L:=⟨_,rfl⟩
 have HR:=zh (show Sy.binds x=if r=true then Sy.bindsL L else none from by
  unfold Sy.binds
  rw[←hL,←hr]
  simp only[beq_iff_eq])
 rw[hL] at HC HPT HLE
 have HAL:=zh hal
 obtain ⟨p0,p1,p2,p3,p4⟩:=hb.cells
 have pl:=hb.lt
 have HBL:=zh hbl
 have HW0:=zh hW0
 clear hb hbl hW0 hv hsh hr hS hL hal
 go_enter func76,ntmps76
 go_upto_region 1 with fail
 rw[HW0.out]
 go_upto_region 2 with (first | (go_at_call 73;refine HC.out.mono ?_;rintro e' w1 ⟨o',len',cap',rfl,hl1,hb1⟩))
 obtain ⟨o5,len5,cap5,he5,hl5,hc5,hm5,hr5⟩:=id hl1
 simp only[Value.slice.injEq] at he5
 obtain ⟨rfl,rfl,rfl⟩:=he5
 have HLN:=zh hl5
 have HL1:=zh hl1
 have HB1:=zh hb1
 have hS1:∀b,S b→b<w1.heap.size:=fun b h=>Nat.lt_of_lt_of_le (HS0.out b h) hb1.size
 have HI0:=zh (show BiI S L w1 L.length (.slice none 0 0) (.slice none 0 0) (.int .i64 0) w1 from
  zh ⟨0,[],[],rfl,rfl,Nat.zero_le _,rfl,rfl,GrownS.nil _ (fun b h=>h.elim (hS1 b) fun h=>by simp[Value.ownBlock] at h) (Nat.le_refl _),GrownS.nil _ (fun b h=>h.elim (hS1 b) fun h=>by simp[Value.ownBlock] at h) (Nat.le_refl _),Below.refl _ _,by simp⟩)
 have HS1:=zh hS1
 clear hl1 hb1 hl5 hr5 hS1 p0 p1 p2 p3 p4 pl
 go_upto_region 3 with fail
 go_loopg [2,3,4,17] L.length (fun g vn vv rv iv wr=>BiI S L w1 g vn vv iv wr∧rv=.bool r)
 case atStart=>exact ⟨HI0.out,rfl⟩
 case round=>
  obtain ⟨hrel,rfl⟩:=hrel
  obtain ⟨i,dn,dv,rfl,rfl,hi,hln,hlv,hgn,hgv,hbl,hbd⟩:=hrel.out
  clear hrel HI0
  have hlw:=zh (sr_lt hgn (Nat.le_refl _))
  by_cases hlt:i<len'
  ·obtain ⟨y,hy⟩:∃y,L[i]?=some y:=⟨_,List.getElem?_eq_getElem (by rw[←HLN.out];exact hlt)⟩
   have HT:=zh (HL1.out.shown (S':=SR (SR S u3) u2) (W':=wr) (fun c o' u hc hu=>by
    have hcl:=zai hu
    refine ⟨fun h=>?_,(hbl.cell (p:=⟨c,o',none⟩) hcl).trans hu⟩
    rcases h with (h | h) | h
    ·exact hc h
    ·have:=(hgv.block h).1;omega
    ·have:=(hgn.block h).1;omega) hbl.size)
   have hmem:y∈L:=List.mem_of_getElem? hy
   obtain ⟨hysh,hyal⟩:=HPT.out y hmem
   obtain ⟨o6,len6,cap6,he6,hl6,hc6,hm6,hr6⟩:=HT.out
   simp only[Value.slice.injEq] at he6
   obtain ⟨rfl,rfl,rfl⟩:=he6
   obtain ⟨b1,off1,k1,n1,d1,s1,l1,o1,len1,cap1,ho1,hx1,e0,e1,e2,e3,e4,er⟩:=zay hr6 (Below.refl _ _) hy
   subst ho1
   replace e0:=(zac e0).2
   replace e1:=(zac e1).2
   replace e2:=(zac e2).2
   replace e3:=(zac e3).2
   replace e4:=(zac e4).2
   have hbw:Below wr.heap.size wr (wr.alloc (.cells #[.int .i64 k1,.int .i64 n1,.int .i64 d1,.string s1,.slice o1 len1 cap1] 26)):=Below.one _ _
   have hb5:Box5 (wr.alloc (.cells #[.int .i64 k1,.int .i64 n1,.int .i64 d1,.string s1,.slice o1 len1 cap1] 26)) wr.heap.size 26 (.int .i64 k1) (.int .i64 n1) (.int .i64 d1) (.string s1) (.slice o1 len1 cap1):=Box5.new wr _ _ _ _ _ _
   obtain ⟨r2,hr2⟩:∃r2,((Sy.split y).2.kind==4)=r2:=⟨_,rfl⟩
   have HIT:=zh (zbm (SR (SR S u3) u2) y (.agg #[.int .i64 k1,.int .i64 n1,.int .i64 d1,.string s1,.slice o1 len1 cap1]) wr.heap.size _ r2 hr2 (fun b hb=>Nat.lt_of_lt_of_le (hlw.out b hb) hbw.size) ((by rw[hx1];exact er:RepD (hide wr (SR (SR S u3) u2)) wr.heap.size y _).shown (Shown.below hbw) (Nat.le_refl _)) hbw.size hysh (Nat.le_trans hyal HAL.out))
   have HBD:=zh hbd
   have HGN:=zh hgn
   have HGV:=zh hgv
   have HBLr:=zh hbl
   have HBW:=zh hbw
   have HY:=zh hy
   have HR2:=zh hr2
   have HLI:=zh (show i<L.length from by rw[←HLN.out];exact hlt)
   have HDN:=zh hln
   have HDV:=zh hlv
   clear hbd hgn hgv hbl er hy hx1 hr2 hr6 hysh hyal hl6 hmem hln hlv hbw
   go_upto_region 5 with fail
   obtain ⟨q0,q1,q2,q3,q4⟩:=hb5.cells
   have ql:=hb5.lt
   clear hb5
   go_upto_region 6 with (first | (go_at_call 73;refine HIT.out.mono ?_;rintro e' w2 ⟨o7,len7,cap7,rfl,hl7,hb7⟩))
   have hl7':=zbj hl7
   have HLL:=zh hl7'.1
   clear hl7'
   have hw:w.heap.size≤w1.heap.size:=Nat.le_trans HBL.out.size HB1.out.size
   have HB2:=zh (show Below w1.heap.size w1 w2 from HBLr.out.trans ((HBW.out.trans (hb7.mono HBW.out.size)).mono HBLr.out.size))
   have HB3:=zh (show Below wr.heap.size wr w2 from HBW.out.trans (hb7.mono HBW.out.size))
   have HBW2:=zh (show Below w.heap.size w w2 from (HBL.out.trans (HB1.out.mono HBL.out.size)).trans (HB2.out.mono hw))
   have hdrop:L.drop i=y::L.drop (i+1):=by
    rw[List.drop_eq_getElem_cons HLI.out]
    congr 1
    exact (List.getElem?_eq_some_iff.1 HY.out).2
   have HBD2:=zh (show Sy.bindsL L=(Sy.bindsL (y::L.drop (i+1))).map fun p=>(dn++p.1,dv++p.2) from by rw[←hdrop];exact HBD.out)
   have HW:=zh hw
   clear hdrop hw
   by_cases hok:r2=true∧len7=2
   ·obtain ⟨rfl,rfl⟩:=hok
    obtain ⟨a,b,hab⟩:∃a b,(Sy.split y).1=[a,b]:=by
     match h:(Sy.split y).1,(show (Sy.split y).1.length=2 from HLL.out.symm) with
     | [a,b],_=>exact ⟨a,b,rfl⟩
    rw[hab] at hl7
    have HBD3:=zh (show Sy.bindsL L=(Sy.bindsL (L.drop (i+1))).map fun p=>((dn++[a])++p.1,(dv++[b])++p.2) from by
     rw[HBD2.out]
     simp only[Sy.bindsL,hab]
     rw[if_pos (by simpa using HR2.out),Option.map_map]
     simp[Function.comp_def])
    obtain ⟨o6,len6,cap6,he6,hl6,hc6,hm6,hr6⟩:=hl7
    simp only[Value.slice.injEq] at he6
    obtain ⟨rfl,rfl,rfl⟩:=he6
    obtain ⟨b7,off7,ka,na,da,sa,la,oa,lena,capa,ho7,hxa,f0,f1,f2,f3,f4,ea⟩:=zay hr6 (Below.refl _ _) (show [a,b][0]?=some a from rfl)
    obtain ⟨b8,off8,kb,nb,db,sb,lb,ob,lenb,capb,ho8,hxb,g0,g1,g2,g3,g4,eb⟩:=zay hr6 (Below.refl _ _) (show [a,b][1]?=some b from rfl)
    subst ho7
    simp only[Option.some.injEq,Addr.mk.injEq,and_true] at ho8
    obtain ⟨rfl,rfl⟩:=ho8
    have HF:=zh (show w2.cell? ⟨b7,off7,none⟩=some (.int .i64 ka)∧w2.cell? ⟨b7,off7+1,none⟩=some (.int .i64 na)∧w2.cell? ⟨b7,off7+2,none⟩=some (.int .i64 da)∧w2.cell? ⟨b7,off7+3,none⟩=some (.string sa)∧w2.cell? ⟨b7,off7+4,none⟩=some (.slice oa lena capa) from ⟨by simpa using (zac f0).2,by simpa using (zac f1).2,by simpa using (zac f2).2,by simpa using (zac f3).2,by simpa using (zac f4).2⟩)
    have HG:=zh (show w2.cell? ⟨b7,off7+5,none⟩=some (.int .i64 kb)∧w2.cell? ⟨b7,off7+6,none⟩=some (.int .i64 nb)∧w2.cell? ⟨b7,off7+7,none⟩=some (.int .i64 db)∧w2.cell? ⟨b7,off7+8,none⟩=some (.string sb)∧w2.cell? ⟨b7,off7+9,none⟩=some (.slice ob lenb capb) from ⟨by simpa using (zac g0).2,by simpa using (zac g1).2,by simpa using (zac g2).2,by simpa using (zac g3).2,by simpa using (zac g4).2⟩)
    have HNB:=zh (zac f0).1
    have HEA:=zh (show RepD (hide w2 (SR (SR S u3) u2)) w2.heap.size a (.agg #[.int .i64 ka,.int .i64 na,.int .i64 da,.string sa,.slice oa lena capa]) from by rw[hxa];exact ea)
    have HEB:=zh (show RepD (hide w2 (SR (SR S u3) u2)) w2.heap.size b (.agg #[.int .i64 kb,.int .i64 nb,.int .i64 db,.string sb,.slice ob lenb capb]) from by rw[hxb];exact eb)
    have HN2:=zh (HGN.out.below HB3.out)
    have HV2:=zh (HGV.out.below HB3.out)
    obtain ⟨x0,x1,x2,x3,x4⟩:=HF.out
    obtain ⟨y0,y1,y2,y3,y4⟩:=HG.out
    have bl7:=zai x0
    clear f0 f1 f2 f3 f4 g0 g1 g2 g3 g4 ea eb hxa hxb hr6 hl6 hab hb7 e0 e1 e2 e3 e4 q0 q1 q2 q3 q4
    go_upto_region 8 with fail
    have HD5:=zh ((Below.refl w2.heap.size w2).drew)
    have HNE:=zh (show ¬(u2.ownBlock=some b7∨u3.ownBlock=some b7) from fun h=>HNB.out (h.elim .inr fun h=>.inl (.inr h)))
    have HCA:=zh (show ∀w1,Turned (fun c=>u2.ownBlock=some c∨u3.ownBlock=some c) w2.drew w1→w1.cell? ⟨b7,off7,none⟩=some (.int .i64 ka)∧w1.cell? ⟨b7,off7+1,none⟩=some (.int .i64 na)∧w1.cell? ⟨b7,off7+2,none⟩=some (.int .i64 da)∧w1.cell? ⟨b7,off7+3,none⟩=some (.string sa)∧w1.cell? ⟨b7,off7+4,none⟩=some (.slice oa lena capa) from fun w1 h=>by
     have hc:∀i u,w2.cell? ⟨b7,i,none⟩=some u→w1.cell? ⟨b7,i,none⟩=some u:=fun i u hu=>(Shown.turned (S:=fun c=>u2.ownBlock=some c∨u3.ownBlock=some c) h (fun _ _ h=>h) b7 i u HNE.out hu).2
     exact ⟨hc _ _ HF.out.1,hc _ _ HF.out.2.1,hc _ _ HF.out.2.2.1,hc _ _ HF.out.2.2.2.1,hc _ _ HF.out.2.2.2.2⟩)
    have HCB:=zh (show ∀w1,Turned (fun c=>u2.ownBlock=some c∨u3.ownBlock=some c) w2.drew w1→w1.cell? ⟨b7,off7+5,none⟩=some (.int .i64 kb)∧w1.cell? ⟨b7,off7+6,none⟩=some (.int .i64 nb)∧w1.cell? ⟨b7,off7+7,none⟩=some (.int .i64 db)∧w1.cell? ⟨b7,off7+8,none⟩=some (.string sb)∧w1.cell? ⟨b7,off7+9,none⟩=some (.slice ob lenb capb) from fun w1 h=>by
     have hc:∀i u,w2.cell? ⟨b7,i,none⟩=some u→w1.cell? ⟨b7,i,none⟩=some u:=fun i u hu=>(Shown.turned (S:=fun c=>u2.ownBlock=some c∨u3.ownBlock=some c) h (fun _ _ h=>h) b7 i u HNE.out hu).2
     exact ⟨hc _ _ HG.out.1,hc _ _ HG.out.2.1,hc _ _ HG.out.2.2.1,hc _ _ HG.out.2.2.2.1,hc _ _ HG.out.2.2.2.2⟩)
    have hTW:Twin w2.drew S w1.heap.size dn dv u2 u3:=⟨HN2.out.below HD5.out,HV2.out.below HD5.out⟩
    have hXA:RepD (hide w2.drew (SR (SR S u3) u2)) w2.drew.heap.size a (.agg #[.int .i64 ka,.int .i64 na,.int .i64 da,.string sa,.slice oa lena capa]):=HEA.out.shown (Shown.below HD5.out) (Nat.le_refl _)
    have hXB:RepD (hide w2.drew (SR (SR S u2) u3)) w2.drew.heap.size b (.agg #[.int .i64 kb,.int .i64 nb,.int .i64 db,.string sb,.slice ob lenb capb]):=HEB.out.shown ((Shown.flip w2).trans (Shown.below HD5.out)) (Nat.le_refl _)
    refine zeC 12 4 5 10 11 _ _ _ _ 37 38 43 44 (BiR u2 u3 (.slice (some ⟨b7,off7,none⟩) 2 cap7) (.pointer (some ⟨b7,off7,none⟩)) (.agg #[.int .i64 ka,.int .i64 na,.int .i64 da,.string sa,.slice oa lena capa]) (.pointer (some ⟨b7,off7+5,none⟩)) (.agg #[.int .i64 kb,.int .i64 nb,.int .i64 db,.string sb,.slice ob lenb capb])) (by kernel_rfl) (by show monoB _ 12 49=true;kernel_rfl) ⟨rfl,rfl,by omega⟩ ⟨rfl,rfl,by omega⟩ ⟨rfl,rfl,by omega⟩ ⟨rfl,rfl,by omega⟩ (by decide) ?hdA ?hdB hTW hXA hXB ?hops ?hmA ?hmB ?hgA ?hgB ?hend
    case hdA=>exact zbe 4 (by kernel_rfl)
    case hdB=>exact zbe 10 (by kernel_rfl)
    case hops=>
     intro i o hi hsp ho x w1 hdf hsz hT hdep hrest
     match i,hi,hsp with
     | 0,_,_=>
      obtain rfl:_=o:=Option.some.inj ho
      have h2:x.tmps.getD 2 undef=u2:=hrest.at 2 (by kernel_rfl)
      exact zaj (v:=u2) rfl (by go_simp) rfl
     | 1,_,_=>
      obtain rfl:_=o:=Option.some.inj ho
      have h8:x.tmps.getD 8 undef=.slice (some ⟨b7,off7,none⟩) 2 cap7:=hrest.at 8 (by kernel_rfl)
      exact zaj (v:=(.slice (some ⟨b7,off7,none⟩) 2 cap7)) rfl (by go_simp) rfl
     | 2,_,_=>
      obtain rfl:_=o:=Option.some.inj ho
      have h34:x.tmps.getD 34 undef=.slice (some ⟨b7,off7,none⟩) 2 cap7:=zaD hdep 1 34 (by kernel_rfl) (by decide)
      exact zaj (v:=.pointer (some ⟨b7,off7,none⟩)) rfl (by go_simp) rfl
     | 3,_,_=>
      obtain rfl:_=o:=Option.some.inj ho
      have h35:x.tmps.getD 35 undef=.pointer (some ⟨b7,off7,none⟩):=zaD hdep 2 35 (by kernel_rfl) (by decide)
      obtain ⟨z0,z1,z2,z3,z4⟩:=HCA.out w1 hT
      have zl:=zai z0
      exact zaj (v:=.agg #[.int .i64 ka,.int .i64 na,.int .i64 da,.string sa,.slice oa lena capa]) rfl (by go_simp) rfl
     | 4,_,h | 5,_,h | 10,_,h | 11,_,h=>exact absurd (by decide) h
     | 6,_,_=>
      obtain rfl:_=o:=Option.some.inj ho
      have h3:x.tmps.getD 3 undef=u3:=hrest.at 3 (by kernel_rfl)
      exact zaj (v:=u3) rfl (by go_simp) rfl
     | 7,_,_=>
      obtain rfl:_=o:=Option.some.inj ho
      have h8:x.tmps.getD 8 undef=.slice (some ⟨b7,off7,none⟩) 2 cap7:=hrest.at 8 (by kernel_rfl)
      exact zaj (v:=(.slice (some ⟨b7,off7,none⟩) 2 cap7)) rfl (by go_simp) rfl
     | 8,_,_=>
      obtain rfl:_=o:=Option.some.inj ho
      have h40:x.tmps.getD 40 undef=.slice (some ⟨b7,off7,none⟩) 2 cap7:=zaD hdep 7 40 (by kernel_rfl) (by decide)
      exact zaj (v:=.pointer (some ⟨b7,off7+5,none⟩)) rfl (by go_simp) rfl
     | 9,_,_=>
      obtain rfl:_=o:=Option.some.inj ho
      have h41:x.tmps.getD 41 undef=.pointer (some ⟨b7,off7+5,none⟩):=zaD hdep 8 41 (by kernel_rfl) (by decide)
      obtain ⟨z0,z1,z2,z3,z4⟩:=HCB.out w1 hT
      have zl:=zai z0
      exact zaj (v:=.agg #[.int .i64 kb,.int .i64 nb,.int .i64 db,.string sb,.slice ob lenb capb]) rfl (by go_simp) rfl
    case hmA=>
     intro x w1 _ _ hdep _
     exact zbh rfl rfl (zaD hdep 3 36 (by kernel_rfl) (by decide))
    case hmB=>
     intro x w1 _ _ hdep _
     exact zbh rfl rfl (zaD hdep 9 42 (by kernel_rfl) (by decide))
    case hgA=>
     intro x w1 T _ _ hdep _ hg hk
     exact zaY rfl rfl (zaD hdep 0 33 (by kernel_rfl) (by decide)) hg hk (by have:=HDN.out;have:=HLI.out;have:=HLE.out;have:=HAL.out;simp only[List.length_singleton];omega)
    case hgB=>
     intro x w1 T _ _ hdep _ hg hk
     exact zaY rfl rfl (zaD hdep 6 39 (by kernel_rfl) (by decide)) hg hk (by have:=HDV.out;have:=HLI.out;have:=HLE.out;have:=HAL.out;simp only[List.length_singleton];omega)
    case hend=>
     intro x w9 hdf hsz hT hrest htw hval
     clear hval
     obtain ⟨f,ha,hf⟩:=zaq [false,false,false,false,false,false,false,false,false,false,false,false,false,false,false,false,false,false,false,false,false,false,false,false,false,false,false,false,false,false,false,false,false,true,true,true,true,true,true,true,true,true,true,true,true,false,false,false,false] (by kernel_rfl) hdf hsz hrest
     rw[←hf,←hf] at htw
     subst ha
     have HB9:=zh (show Below w1.heap.size w1 w9 from HB2.out.trans (((HD5.out.mono HB2.out.size).trans (Turned.below hT (fun c hc=>hc.elim (fun h=>(HN2.out.block h).1) fun h=>(HV2.out.block h).1) HB2.out.size))))
     have HTW:=zh htw
     clear htw hT hdf hsz hrest hf hTW hXA hXB HCA HCB
     simp only[spellH,List.drop_succ_cons,List.drop_zero]
     go_wp2_with fail
     go_roundg (L.length-(i+1))
     case measure=>have:=HLI.out;omega
     case rel=>
      refine ⟨zh ⟨i+1,dn++[a],dv++[b],by go_num,rfl,by have:=HLI.out;omega,by simp[HDN.out],by simp[HDV.out],HTW.out.1,HTW.out.2,HB9.out,HBD3.out⟩,rfl⟩
   ·have HN:=zh (show Sy.bindsL L=none from by
     rw[HBD2.out]
     simp only[Sy.bindsL]
     split
     ·rename_i a b hab
      rw[if_neg (fun hk=>hok ⟨by rw[←HR2.out];simpa using hk,by rw[HLL.out,hab];rfl⟩)]
      rfl
     ·rfl)
    have HNN:=zh (show Sy.binds x=none from by rw[HR.out];split<;>first | exact HN.out | rfl)
    cases r2
    ·go_wp2_with fail
     refine bodyPost_ret (v:=.tuple #[.slice none 0 0,.slice none 0 0,.bool false]) (by simp[results,results76,go_sem]) rfl ?_
     exact ⟨[],[],_,_,false,rfl,GrownS.nil _ (fun b h=>h.elim (fun h=>Nat.lt_of_lt_of_le (HS1.out b h) HB2.out.size) fun h=>by simp[Value.ownBlock] at h) HBW2.out.size,GrownS.nil _ (fun b h=>h.elim (fun h=>Nat.lt_of_lt_of_le (HS1.out b h) HB2.out.size) fun h=>by simp[Value.ownBlock] at h) HBW2.out.size,HBW2.out,fun h=>by simp at h,fun _=>HNN.out,Nat.zero_le _⟩
    ·have h72:((len7:Int) != 2)=true:=by
      simp only[true_and] at hok
      simp only[bne_iff_ne,ne_eq]
      omega
     go_wp2_with fail
     refine bodyPost_ret (v:=.tuple #[.slice none 0 0,.slice none 0 0,.bool false]) (by simp[results,results76,go_sem]) rfl ?_
     exact ⟨[],[],_,_,false,rfl,GrownS.nil _ (fun b h=>h.elim (fun h=>Nat.lt_of_lt_of_le (HS1.out b h) HB2.out.size) fun h=>by simp[Value.ownBlock] at h) HBW2.out.size,GrownS.nil _ (fun b h=>h.elim (fun h=>Nat.lt_of_lt_of_le (HS1.out b h) HB2.out.size) fun h=>by simp[Value.ownBlock] at h) HBW2.out.size,HBW2.out,fun h=>by simp at h,fun _=>HNN.out,Nat.zero_le _⟩
  ·have hE:Sy.bindsL L=some (dn,dv):=by rw[hbd,List.drop_of_length_le (by rw[←HLN.out];omega)];simp[Sy.bindsL]
   go_wp2_with fail
   refine bodyPost_ret (v:=.tuple #[u2,u3,.bool r]) (by simp[results,results76,go_sem]) rfl ?_
   have hw:w.heap.size≤w1.heap.size:=Nat.le_trans HBL.out.size HB1.out.size
   refine ⟨dn,dv,u2,u3,r,rfl,hgn.less (fun _ h=>h) hw,hgv.less (fun _ h=>h) hw,(HBL.out.trans (HB1.out.mono HBL.out.size)).trans (hbl.mono hw),fun h=>?_,fun h=>?_,?_⟩
   ·rw[HR.out,if_pos h,hE]
   ·rw[HR.out,if_neg (by simp[h])]
   ·have:=HLE.out;have:=HAL.out;omega
end
section
open Go Go.RowKit
namespace Sy
def pairsL (l m:List Dat):List Dat:=List.zipWith (fun a b=>Dat.list [a,b]) l m
def pairs (l m:List Dat):Dat:=Dat.list (pairsL l m)
theorem pairsL_snoc {l m:List Dat} {i:Nat} {a b:Dat} (ha:l[i]?=some a) (hb:m[i]?=some b):pairsL (l.take (i+1)) (m.take (i+1))=pairsL (l.take i) (m.take i)++[Dat.list [a,b]]:=by
 obtain ⟨h1,rfl⟩:=List.getElem?_eq_some_iff.1 ha
 obtain ⟨h2,rfl⟩:=List.getElem?_eq_some_iff.1 hb
 unfold pairsL
 rw[List.take_succ_eq_append_getElem h1,List.take_succ_eq_append_getElem h2,List.zipWith_append (by simp;omega)]
 rfl
end Sy
theorem zbs {W:World} {S:Nat→Prop} {l:List Dat} {cs:List Value} {n:Nat} (hn:n=l.length) (hm:n≤1000) (hS:∀b,S b→b<W.heap.size) (h:CellsD (hide W S) W.heap.size l cs):RepS (hide (W.alloc (.cells cs.toArray 26)) S) (W.alloc (.cells cs.toArray 26)).heap.size l (.slice (some ⟨W.heap.size,0,none⟩) n n):=by
 have hb:Below W.heap.size W (W.alloc (.cells cs.toArray 26)):=Below.one _ _
 have h1:CellsD (hide (W.alloc (.cells cs.toArray 26)) S) (hide (W.alloc (.cells cs.toArray 26)) S).heap.size l cs:=h.shown (Shown.below hb) (by rw[za3];exact hb.size)
 have h2:=zjv (W:=hide (W.alloc (.cells cs.toArray 26)) S) (b:=W.heap.size) (n:=n) hn hm (by rw[zd0 (fun h=>by have:=hS _ h;omega)];exact World.alloc_heap_new W _) h1
 rwa[za3] at h2
section
variable {P : Program} {ops : Array Oper} {o : Oper} {a : Act} {w : World}
theorem zcg {K:Act→World→Prop} {f:FuncId} {s:Nat} {ts:Array TypeId} {x:Value} {R:Ending→World→Prop} (hg:o.guard=none) (ho:o.op=.call { callee:=.value (.func f),args:=#[.tmp s],argTypes:=ts }) (hx:a.tmps.getD s undef=x) (hf:∀args w,(callFunc f args).run P w=.ok (.enter f args) w)
  (hc:Calls P f #[x] w R) (hR:∀e w',R e w'→∃v,e=.returned v∧K (a.put o.dst v) w'):wpList P ops (fun e a' w'=>e=.normal∧K a' w') [o] a w:=by
 refine wpList_plain hg fun K' hK'=>?_
 have hev:a.eval (.tmp s)=x:=hx
 have hef:a.eval (.func f)=.func (.func f) #[] #[]:=rfl
 have hrun:(execOp a.eval o).run P w=.ok (.enter f #[x]) w:=by
  simp[execOp,ho,resolve,Deferred.ofValue,invoke,hev,hef,hf]
 unfold Oper.wp
 rw[hrun]
 simp only[Oper.upon]
 refine hc.mono fun e w' h=>?_
 obtain ⟨v,rfl,hv⟩:=hR e w' h
 exact hK' _ _ ⟨rfl,hv⟩
theorem zaw {R:Nat→Value→World→Prop} {Ext:World→World→Prop} {i:Nat} {v:Value} {w':World} (hg:o.guard=none) (h:(execOp a.eval o).run P w=.ok (.value v) w') (hv:R i v w') (he:Ext w w'):wpList P ops (StepPost R Ext i o a w) [o] a w:=
 wpList_plain hg fun K hK=>by unfold Oper.wp;rw[h];exact hK _ _ ⟨rfl,v,rfl,hv,he⟩
end
theorem zjt (w:World) (k n d k' n' d':Int) (s s':ByteArray) (o o':Option Addr) (l c l' c':Nat):(Instr.buildSlice 22 2 #[(0,.agg #[.int .i64 k,.int .i64 n,.int .i64 d,.string s,.slice o l c]),(1,.agg #[.int .i64 k',.int .i64 n',.int .i64 d',.string s',.slice o' l' c'])]).run prog w=.ok (.slice (some ⟨w.heap.size,0,none⟩) 2 2) (w.alloc (.cells #[.int .i64 k,.int .i64 n,.int .i64 d,.string s,.slice o l c,.int .i64 k',.int .i64 n',.int .i64 d',.string s',.slice o' l' c'] 26)):=by go_simp
theorem zei {o:Oper} {a:Act} {w:World} {s:Nat} {k n d:Int} {st:ByteArray} {p:Option Addr} {l c:Nat} (ho:o.op=.buildSlice 22 1 #[(0,.tmp s)]) (hx:a.tmps.getD s undef=.agg #[.int .i64 k,.int .i64 n,.int .i64 d,.string st,.slice p l c]):(execOp a.eval o).run prog w=.ok (.value (.slice (some ⟨w.heap.size,0,none⟩) 1 1)) (w.alloc (.cells #[.int .i64 k,.int .i64 n,.int .i64 d,.string st,.slice p l c] 26)):=by
 have hmap:(#[(0,Operand.tmp s)]:Array (Nat × Operand)).map (fun (i,x)=>(i,a.eval x))=#[(0,.agg #[.int .i64 k,.int .i64 n,.int .i64 d,.string st,.slice p l c])]:=by
  simp only[List.map_toArray,List.map_cons,List.map_nil]
  rw[←hx];rfl
 unfold execOp
 rw[ho]
 show (do let r ←Instr.buildSlice 22 1 ((#[(0,Operand.tmp s)]:Array (Nat × Operand)).map (fun (i,x)=>(i,a.eval x)));pure (Next.value r):Sem Next).run prog w=_
 rw[hmap]
 simp only[Sem.run_bind,Sem.run_pure,zh3,Result.andThen_ok]
theorem zcH {o:Oper} {a:Act} {w:World} {s s':Nat} {k n d k' n' d':Int} {st st':ByteArray} {p p':Option Addr} {l c l' c':Nat} (ho:o.op=.buildSlice 22 2 #[(0,.tmp s),(1,.tmp s')]) (hx:a.tmps.getD s undef=.agg #[.int .i64 k,.int .i64 n,.int .i64 d,.string st,.slice p l c]) (hx':a.tmps.getD s' undef=.agg #[.int .i64 k',.int .i64 n',.int .i64 d',.string st',.slice p' l' c']):(execOp a.eval o).run prog w=.ok (.value (.slice (some ⟨w.heap.size,0,none⟩) 2 2)) (w.alloc (.cells #[.int .i64 k,.int .i64 n,.int .i64 d,.string st,.slice p l c,.int .i64 k',.int .i64 n',.int .i64 d',.string st',.slice p' l' c'] 26)):=by
 have hmap:(#[(0,Operand.tmp s),(1,Operand.tmp s')]:Array (Nat × Operand)).map (fun (i,x)=>(i,a.eval x))=#[(0,.agg #[.int .i64 k,.int .i64 n,.int .i64 d,.string st,.slice p l c]),(1,.agg #[.int .i64 k',.int .i64 n',.int .i64 d',.string st',.slice p' l' c'])]:=by
  simp only[List.map_toArray,List.map_cons,List.map_nil]
  rw[←hx,←hx'];rfl
 unfold execOp
 rw[ho]
 show (do let r ←Instr.buildSlice 22 2 ((#[(0,Operand.tmp s),(1,Operand.tmp s')]:Array (Nat × Operand)).map (fun (i,x)=>(i,a.eval x)));pure (Next.value r):Sem Next).run prog w=_
 rw[hmap]
 simp only[Sem.run_bind,Sem.run_pure,zjt,Result.andThen_ok]
theorem keepN {W W2:World} {p b off:Nat} (hb:Below p W W2) (hlt:b<p) {c0 c1 c2 c3 c4:Value} (h:W.cell? ⟨b,off,none⟩=some c0∧W.cell? ⟨b,off+1,none⟩=some c1∧W.cell? ⟨b,off+2,none⟩=some c2∧W.cell? ⟨b,off+3,none⟩=some c3∧W.cell? ⟨b,off+4,none⟩=some c4):W2.cell? ⟨b,off,none⟩=some c0∧W2.cell? ⟨b,off+1,none⟩=some c1∧W2.cell? ⟨b,off+2,none⟩=some c2∧W2.cell? ⟨b,off+3,none⟩=some c3∧W2.cell? ⟨b,off+4,none⟩=some c4:=by
 have g:∀i,W2.cell? ⟨b,i,none⟩=W.cell? ⟨b,i,none⟩:=fun i=>hb.cell (p:=⟨b,i,none⟩) hlt
 simp only[g]
 exact h
def PaR (S:Nat→Prop) (ov vs pv vx vy:Value) (i:Nat) (x y:Dat) (n:Nat) (v:Value) (W:World):Prop:=match n with
 | 0=>v=ov
 | 1=>v=vx
 | 2=>v=vs
 | 3=>v=.int .i64 i
 | 4=>v=pv
 | 5=>v=vy
 | 6=>RepS (hide W S) W.heap.size [x,y] v
 | 7=>RepD (hide W S) W.heap.size (Dat.list [x,y]) v
 | 8=>RepS (hide W S) W.heap.size [Dat.list [x,y]] v
 | _=>True
theorem zlj {S:Nat→Prop} {ov vs pv vx vy:Value} {i:Nat} {x y:Dat} {m:Nat}:∀n v (A C:World),n<m→PaR S ov vs pv vx vy i x y n v A→Below A.heap.size A C→PaR S ov vs pv vx vy i x y n v C:=by
 intro n v A C _ h hb
 match n,h with
 | 0,h | 1,h | 2,h | 3,h | 4,h | 5,h=>exact h
 | 6,h=>exact RepS.shown h (Shown.below hb) hb.size
 | 7,h=>exact RepD.shown h (Shown.below hb) hb.size
 | 8,h=>exact RepS.shown h (Shown.below hb) hb.size
 | n+9,_=>exact trivial
def PaI (S:Nat→Prop) (nl vl:List Dat) (w:World) (g:Nat) (ov iv:Value) (wr:World):Prop:=Hid (∃(i:Nat),iv=.int .i64 i∧g=nl.length-i∧i≤nl.length∧GrownS wr (S1 S w.heap.size) (w.heap.size+1) (Sy.pairsL (nl.take i) (vl.take i)) ov∧Box5 wr w.heap.size 26 (.int .i64 0) (.int .i64 0) (.int .i64 0) (.string ⟨#[]⟩) (.slice none 0 0)∧Below w.heap.size w wr)
theorem zii (S:Nat→Prop) (nl vl:List Dat) (ns vs:Value) (B:Nat) (w:World) (hS:∀b,S b→b<w.heap.size) (hn:RepS (hide w S) B nl ns) (hv:RepS (hide w S) B vl vs) (hB:B≤w.heap.size) (hlen:nl.length=vl.length) (hl:nl.length≤100000) :
  Calls prog 53 #[ns,vs] w (DatPostH S (Sy.pairs nl vl) w):=by
 obtain ⟨on,lenn,capn,rfl,hln,hcn,hmn,hrn⟩:=id hn
 obtain ⟨ov,lenv,capv,rfl,hlv,hcv,hmv,hrv⟩:=id hv
 obtain ⟨W0,hW0⟩:∃W0,w.alloc (.cells #[.int .i64 0,.int .i64 0,.int .i64 0,.string ⟨#[]⟩,.slice none 0 0] 26)=W0:=⟨_,rfl⟩
 have hb:Box5 W0 w.heap.size 26 (.int .i64 0) (.int .i64 0) (.int .i64 0) (.string ⟨#[]⟩) (.slice none 0 0):=by rw[←hW0];exact Box5.new w _ _ _ _ _ _
 have hbl:Below w.heap.size w W0:=by rw[←hW0];exact Below.one _ _
 have hsz:W0.heap.size=w.heap.size+1:=by rw[←hW0];simp
 have HI0:=zh (show PaI S nl vl w nl.length (.slice none 0 0) (.int .i64 0) W0 from
  zh ⟨0,rfl,rfl,Nat.zero_le _,GrownS.nil _ (fun b h=>by rw[hsz];exact s1_lt hS (Nat.lt_succ_self _) b h) (by omega),hb,hbl⟩)
 have HN:=zh hn
 have HV:=zh hv
 have HLN:=zh hln
 have HLV:=zh (hlv.trans hlen.symm)
 have HS:=zh hS
 have HL:=zh hl
 have HW0:=zh hW0
 have hlb:lenn≤100000:=by omega
 clear hn hv hrn hrv hln hlv hb hbl hsz hW0 hS hlen hl
 go_enter func53,ntmps53
 go_upto_region 3 with fail
 rw[HW0.out]
 clear HW0
 go_loopg [5,10] nl.length (fun g ov iv wr=>PaI S nl vl w g ov iv wr)
 case atStart=>exact HI0.out
 case round=>
  obtain ⟨i,rfl,rfl,hi,hg,hbx,hbl⟩:=hrel.out
  clear hrel HI0
  by_cases hlt:i<lenn
  ·obtain ⟨x,hx⟩:∃x,nl[i]?=some x:=⟨_,List.getElem?_eq_getElem (by rw[←HLN.out];exact hlt)⟩
   obtain ⟨y,hy⟩:∃y,vl[i]?=some y:=by
    refine ⟨_,List.getElem?_eq_getElem ?_⟩
    have hh:=HN.out
    have hh2:=HV.out
    have:=(zbj hh2).1
    have:=HLV.out
    have:=HLN.out
    omega
   have hsh:Shown w S wr (SR (S1 S w.heap.size) u5):=fun c o' u hc hu=>by
    have hcl:=zai hu
    refine ⟨fun h=>?_,(hbl.cell (p:=⟨c,o',none⟩) hcl).trans hu⟩
    rcases h with (h | h) | h
    ·exact hc h
    ·omega
    ·have:=(hg.block h).1;omega
   obtain ⟨o6,len6,cap6,he6,hl6,hc6,hm6,hr6⟩:=(HN.out.wider hB).shown hsh hbl.size
   simp only[Value.slice.injEq] at he6
   obtain ⟨rfl,rfl,rfl⟩:=he6
   obtain ⟨o7,len7,cap7,he7,hl7,hc7,hm7,hr7⟩:=(HV.out.wider hB).shown hsh hbl.size
   simp only[Value.slice.injEq] at he7
   obtain ⟨rfl,rfl,rfl⟩:=he7
   obtain ⟨b1,off1,k1,n1,d1,s1,l1,o1,len1,cap1,ho1,hx1,e0,e1,e2,e3,e4,er⟩:=zay hr6 (Below.refl _ _) hx
   subst ho1
   obtain ⟨b2,off2,k2,n2,d2,s2,l2,o2,len2,cap2,ho2,hx2,f0,f1,f2,f3,f4,fr⟩:=zay hr7 (Below.refl _ _) hy
   subst ho2
   replace e0:=(zac e0).2
   replace e1:=(zac e1).2
   replace e2:=(zac e2).2
   replace e3:=(zac e3).2
   replace e4:=(zac e4).2
   replace f0:=(zac f0).2
   replace f1:=(zac f1).2
   replace f2:=(zac f2).2
   replace f3:=(zac f3).2
   replace f4:=(zac f4).2
   have hlv2:i<lenv:=by have:=HLV.out;have:=HLN.out;omega
   have er':RepD (hide wr (SR (S1 S w.heap.size) u5)) wr.heap.size x (.agg #[.int .i64 k1,.int .i64 n1,.int .i64 d1,.string s1,.slice o1 len1 cap1]):=by rw[hx1];exact er
   have fr':RepD (hide wr (SR (S1 S w.heap.size) u5)) wr.heap.size y (.agg #[.int .i64 k2,.int .i64 n2,.int .i64 d2,.string s2,.slice o2 len2 cap2]):=by rw[hx2];exact fr
   have HX:=zh hx
   have HY:=zh hy
   have HBX:=zh hbx
   have HG0:=zh hg
   have HBL:=zh hbl
   have HI:=zh hi
   clear er fr hx1 hx2 hr6 hr7 hl6 hl7 hx hy hsh hbx hg hbl hi
   go_upto_region 5 with fail
   have hone:Below wr.heap.size wr (wr.alloc (.cells #[.int .i64 k1,.int .i64 n1,.int .i64 d1,.string s1,.slice o1 len1 cap1] 26)):=Below.one _ _
   have hbn:Box5 (wr.alloc (.cells #[.int .i64 k1,.int .i64 n1,.int .i64 d1,.string s1,.slice o1 len1 cap1] 26)) wr.heap.size 26 (.int .i64 k1) (.int .i64 n1) (.int .i64 d1) (.string s1) (.slice o1 len1 cap1):=Box5.new wr _ _ _ _ _ _
   have hc:∀o' u,wr.cell? ⟨b2,o',none⟩=some u→(wr.alloc (.cells #[.int .i64 k1,.int .i64 n1,.int .i64 d1,.string s1,.slice o1 len1 cap1] 26)).cell? ⟨b2,o',none⟩=some u:=fun o' u hu=>(hone.cell (p:=⟨b2,o',none⟩) (zai hu)).trans hu
   replace f0:=hc _ _ f0
   replace f1:=hc _ _ f1
   replace f2:=hc _ _ f2
   replace f3:=hc _ _ f3
   replace f4:=hc _ _ f4
   replace er':=er'.shown (Shown.below hone) hone.size
   replace fr':=fr'.shown (Shown.below hone) hone.size
   have hg1:=HG0.out.below hone
   have hb1:=HBL.out.trans (hone.mono HBL.out.size)
   have hbx1:=HBX.out.alloc (.cells #[.int .i64 k1,.int .i64 n1,.int .i64 d1,.string s1,.slice o1 len1 cap1] 26)
   clear hc hone e0 e1 e2 e3 e4
   generalize wr.alloc (.cells #[.int .i64 k1,.int .i64 n1,.int .i64 d1,.string s1,.slice o1 len1 cap1] 26)=W1 at *
   obtain ⟨q0,q1,q2,q3,q4⟩:=hbn.cells
   have ql:=hbn.lt
   have fl:=zai f0
   have HD1:=zh (show Below W1.heap.size W1 W1.drew from (Below.refl W1.heap.size W1).drew)
   have HSL:=zh (sr_lt hg1 (Nat.le_refl _))
   have HG1:=zh hg1
   have HB1:=zh hb1
   have HBX1:=zh hbx1
   have HEX:=zh er'
   have HFY:=zh fr'
   have HBN:=zh hbn
   have HFC:=zh (show W1.cell? ⟨b2,off2+i*5,none⟩=some (.int .i64 k2)∧W1.cell? ⟨b2,off2+i*5+1,none⟩=some (.int .i64 n2)∧W1.cell? ⟨b2,off2+i*5+2,none⟩=some (.int .i64 d2)∧W1.cell? ⟨b2,off2+i*5+3,none⟩=some (.string s2)∧W1.cell? ⟨b2,off2+i*5+4,none⟩=some (.slice o2 len2 cap2) from ⟨f0,f1,f2,f3,f4⟩)
   have HPX:=zh ql
   generalize wr.heap.size=X at *
   clear hg1 hb1 hbx1 er' fr' hbn f0 f1 f2 f3 f4 q0 q1 q2 q3 q4
   refine zeK 9 (PaR (SR (S1 S w.heap.size) u5) u5 (.slice (some ⟨b2,off2,none⟩) lenv capv) (.pointer (some ⟨b2,off2+i*5,none⟩)) (.agg #[.int .i64 k1,.int .i64 n1,.int .i64 d1,.string s1,.slice o1 len1 cap1]) (.agg #[.int .i64 k2,.int .i64 n2,.int .i64 d2,.string s2,.slice o2 len2 cap2]) i x y) (fun A B=>Below A.heap.size A B) (by kernel_rfl) (by show monoB _ 9 28=true;kernel_rfl) (fun h k=>Below.next h k) (Below.refl _ _) zlj ?hops ?hend
   case hops=>
    intro j o hj ho x8 w8 hdf hsz hex hdep hrest
    have hb8:Below W1.heap.size W1 w8:=HD1.out.trans hex
    match j,hj with
    | 0,_=>
      obtain rfl:_=o:=Option.some.inj ho
      have h5:x8.tmps.getD 5 undef=u5:=hrest.at 5 (by kernel_rfl)
      exact zaw (v:=u5) rfl (by go_simp) rfl (Below.refl _ _)
    | 1,_=>
      obtain rfl:_=o:=Option.some.inj ho
      have h7:x8.tmps.getD 7 undef=.pointer (some ⟨X,0,none⟩):=hrest.at 7 (by kernel_rfl)
      have hbq:Box5 w8 X 26 (.int .i64 k1) (.int .i64 n1) (.int .i64 d1) (.string s1) (.slice o1 len1 cap1):=(hb8.block _ HPX.out).trans HBN.out
      obtain ⟨q0,q1,q2,q3,q4⟩:=hbq.cells
      have ql:=hbq.lt
      exact zaw (v:=(.agg #[.int .i64 k1,.int .i64 n1,.int .i64 d1,.string s1,.slice o1 len1 cap1])) rfl (by go_simp) rfl (Below.refl _ _)
    | 2,_=>
      obtain rfl:_=o:=Option.some.inj ho
      have h1:x8.tmps.getD 1 undef=.slice (some ⟨b2,off2,none⟩) lenv capv:=hrest.at 1 (by kernel_rfl)
      exact zaw (v:=(.slice (some ⟨b2,off2,none⟩) lenv capv)) rfl (by go_simp) rfl (Below.refl _ _)
    | 3,_=>
      obtain rfl:_=o:=Option.some.inj ho
      have h6:x8.tmps.getD 6 undef=.int .i64 i:=hrest.at 6 (by kernel_rfl)
      exact zaw (v:=(.int .i64 i)) rfl (by go_simp) rfl (Below.refl _ _)
    | 4,_=>
      obtain rfl:_=o:=Option.some.inj ho
      have h17:x8.tmps.getD 17 undef=.slice (some ⟨b2,off2,none⟩) lenv capv:=zaT hdep 2 17 (by kernel_rfl)
      have h18:x8.tmps.getD 18 undef=.int .i64 i:=zaT hdep 3 18 (by kernel_rfl)
      exact zaw (v:=(.pointer (some ⟨b2,off2+i*5,none⟩))) rfl (by go_simp) rfl (Below.refl _ _)
    | 5,_=>
      obtain rfl:_=o:=Option.some.inj ho
      have h19:x8.tmps.getD 19 undef=.pointer (some ⟨b2,off2+i*5,none⟩):=zaT hdep 4 19 (by kernel_rfl)
      obtain ⟨f0,f1,f2,f3,f4⟩:=keepN hb8 fl HFC.out
      have fl8:=zai f0
      exact zaw (v:=(.agg #[.int .i64 k2,.int .i64 n2,.int .i64 d2,.string s2,.slice o2 len2 cap2])) rfl (by go_simp) rfl (Below.refl _ _)
    | 6,_=>
      obtain rfl:_=o:=Option.some.inj ho
      have h16:x8.tmps.getD 16 undef=.agg #[.int .i64 k1,.int .i64 n1,.int .i64 d1,.string s1,.slice o1 len1 cap1]:=zaT hdep 1 16 (by kernel_rfl)
      have h20:x8.tmps.getD 20 undef=.agg #[.int .i64 k2,.int .i64 n2,.int .i64 d2,.string s2,.slice o2 len2 cap2]:=zaT hdep 5 20 (by kernel_rfl)
      refine zaw rfl (zcH rfl h16 h20) ?_ (Below.one _ _)
      exact zbs (W:=w8) (n:=2) (cs:=[.int .i64 k1,.int .i64 n1,.int .i64 d1,.string s1,.slice o1 len1 cap1,.int .i64 k2,.int .i64 n2,.int .i64 d2,.string s2,.slice o2 len2 cap2]) rfl (by omega) (fun b hb=>Nat.lt_of_lt_of_le (HSL.out b hb) hb8.size) ⟨_,_,_,_,_,_,rfl,HEX.out.shown (Shown.below hb8) hb8.size,_,_,_,_,_,_,rfl,HFY.out.shown (Shown.below hb8) hb8.size,rfl⟩
    | 7,_=>
      obtain rfl:_=o:=Option.some.inj ho
      have h21:RepS (hide w8 (SR (S1 S w.heap.size) u5)) w8.heap.size [x,y] (x8.tmps.getD 21 undef):=zaT hdep 6 21 (by kernel_rfl)
      refine zcg (K:=fun a' w'=>∃v,a'=Act.put x8 (some 22) v∧PaR (SR (S1 S w.heap.size) u5) u5 (.slice (some ⟨b2,off2,none⟩) lenv capv) (.pointer (some ⟨b2,off2+i*5,none⟩)) (.agg #[.int .i64 k1,.int .i64 n1,.int .i64 d1,.string s1,.slice o1 len1 cap1]) (.agg #[.int .i64 k2,.int .i64 n2,.int .i64 d2,.string s2,.slice o2 len2 cap2]) i x y 7 v w'∧Below w8.heap.size w8 w') (f:=87) (s:=21) (x:=x8.tmps.getD 21 undef) rfl rfl rfl (fun _ _=>rfl) (zaR (SR (S1 S w.heap.size) u5) [x,y] _ _ _ (fun b hb=>Nat.lt_of_lt_of_le (HSL.out b hb) hb8.size) h21 (Nat.le_refl _)) ?_
      rintro e w' ⟨v,rfl,h1,h2⟩
      exact ⟨v,rfl,v,rfl,h1,h2⟩
    | 8,_=>
      obtain rfl:_=o:=Option.some.inj ho
      have h22:RepD (hide w8 (SR (S1 S w.heap.size) u5)) w8.heap.size (Dat.list [x,y]) (x8.tmps.getD 22 undef):=zaT hdep 7 22 (by kernel_rfl)
      obtain ⟨k8,n8,d8,s8,o8,len8,cap8,h8⟩:=zae h22.unhide
      rw[h8] at h22
      exact zaw rfl (zei rfl h8) (zaA (fun b hb=>Nat.lt_of_lt_of_le (HSL.out b hb) hb8.size) h22) (Below.one _ _)
   case hend=>
    intro x8 w8 hdf hsz hex hval hrest
    have h15:x8.tmps.getD 15 undef=u5:=hval 0 _ 15 (by omega) rfl rfl
    have h23:RepS (hide w8 (SR (S1 S w.heap.size) u5)) w8.heap.size [Dat.list [x,y]] (x8.tmps.getD 23 undef):=hval 8 _ 23 (by omega) rfl rfl
    obtain ⟨f,ha,hf⟩:=zaq [false,false,false,false,false,false,false,false,false,false,false,false,false,false,false,true,true,true,true,true,true,true,true,true,false,false,false,false] (by kernel_rfl) hdf hsz hrest
    rw[←hf] at h15 h23
    subst ha
    have hb8:Below W1.heap.size W1 w8:=HD1.out.trans hex
    have HG8:=zh (HG1.out.below hb8)
    have HB8:=zh (HB1.out.trans (hb8.mono HB1.out.size))
    have HX8:=zh ((hb8.block _ HBX1.out.lt).trans HBX1.out)
    obtain ⟨y23,h23y⟩:∃y23,f 23=y23:=⟨_,rfl⟩
    rw[h23y] at h23
    have HK8:=zh h23
    clear hval hrest hf hex hdf hsz h23 hb8
    simp only[spellH,List.drop_succ_cons,List.drop_zero,h15,h23y]
    go_wp2_with (first | (at_builtin;go_loud (refine zam rfl fun K hK=>zaC (S:=S1 S w.heap.size) (.tmp 15) (.tmp 23) rfl (w.heap.size+1) u5 y23 (Sy.pairsL (nl.take i) (vl.take i)) [Dat.list [x,y]] rfl HG8 rfl HK8 (by have:=HL.out;simp[Sy.pairsL];omega) fun o9 len9 cap9 w9 h9 h10 h11 h12=>hK _ _ ?_)) | fail)
    go_roundg (nl.length-(i+1))
    case measure=>have:=HLN.out;omega
    case rel=>
     have hb9:Below w.heap.size w8 w9:=h10.out.mono (by omega)
     refine zh ⟨i+1,by go_num,rfl,by have:=HLN.out;omega,by rw[Sy.pairsL_snoc HX.out HY.out];exact h9.out,?_,HB8.out.trans hb9⟩
     exact (h10.out.block _ (Nat.lt_succ_self _)).trans HX8.out
  ·have hii:i=nl.length:=by have:=HLN.out;omega
   have hvl:vl.length=nl.length:=(zbj HV.out).1.symm.trans HLV.out
   have HE:=zh (show Sy.pairsL (nl.take i) (vl.take i)=Sy.pairsL nl vl from by rw[hii,List.take_length,←hvl,List.take_length])
   have HG:=zh (hg.rep)
   have HSL:=zh hg.1
   have HBX:=zh hbx
   have HBL:=zh hbl
   clear hg hbx hbl hii hvl
   go_wp2_with (first | (go_at_call 87;refine (zaR (S1 S w.heap.size) _ _ _ _ HSL.out HG.out (Nat.le_refl _)).mono ?_;rintro e' w8 ⟨v8,rfl,hr8,hb8⟩;obtain ⟨k8,n8,d8,s8,o8,len8,cap8,rfl⟩:=zae hr8.unhide;have hx8:Box5 w8 w.heap.size 26 (.int .i64 0) (.int .i64 0) (.int .i64 0) (.string ⟨#[]⟩) (.slice none 0 0):=(hb8.block _ HBX.out.lt).trans HBX.out;obtain ⟨p0,p1,p2,p3,p4⟩:=hx8.cells;obtain ⟨z0,z1,z2,z3,z4⟩:=hx8.free;have pl:=hx8.lt;have HX8:=zh hx8;have HR8:=zh hr8;have HB8:=zh (HBL.out.trans (hb8.mono HBL.out.size));clear hr8 hb8 hx8) | fail)
   have HR5:=zh (HX8.out.set (.int .i64 k8) (.int .i64 n8) (.int .i64 d8) (.string s8) (.slice o8 len8 cap8))
   obtain ⟨r0,r1,r2,r3,r4⟩:=HR5.out.cells
   refine bodyPost_ret (v:=.agg #[.int .i64 k8,.int .i64 n8,.int .i64 d8,.string s8,.slice o8 len8 cap8]) (by simp[results,results53,go_sem,r0,r1,r2,r3,r4]) rfl ?_
   have h8:=HR8.out
   rw[HE.out] at h8
   exact zcR (Nat.le_refl _) HB8.out h8
end
section
open Go Go.RowKit
namespace Sy
def isNm (x:Dat) (s:ByteArray):Bool:=x.kind==2&&x.s.data.toList==s.data.toList
def elseB:ByteArray:=⟨#[101,108,115,101]⟩
def clause (x:Dat) (r:List Dat) (least:Nat):Option (List Dat × Bool):=
 if (split x).2.kind=4∧least≤(split x).1.length then
  (if isNm ((split x).1.headD Dat.null) elseB=false∨r=[] then some ((split x).1,isNm ((split x).1.headD Dat.null) elseB) else none)
 else none
end Sy
def ziW (S:Nat→Prop) (r:Option (List Dat × Bool)) (w:World) (e:Ending) (w':World):Prop:=Below w.heap.size w w'∧match r with
 | some (c,last)=>∃(o:Option Addr) (len cap:Nat),e=.returned (.tuple #[.slice o len cap,.bool last])∧RepS (hide w' S) w'.heap.size c (.slice o len cap)
 | none=>e=.panicked badE
theorem zd5 (S:Nat→Prop) (x:Dat) (r:List Dat) (sl:Value) (least:Nat) (B:Nat) (w:World) (hS:∀b,S b→b<w.heap.size) (hv:RepS (hide w S) B (x::r) sl) (hB:B≤w.heap.size) (hsh:Dat.shaped x=true) (hal:Dat.all x≤100000) (hle:1≤least) (hl2:least≤1000) (hrl:r.length≤1000000) :
  Calls prog 163 #[sl,.int .i64 least] w (ziW S (Sy.clause x r least) w):=by
 obtain ⟨o,len,cap,rfl,hln,hcp,hmx,hrc⟩:=hv
 obtain ⟨b1,off1,k1,n1,d1,s1,l1,o1,len1,cap1,ho1,hx1,e0,e1,e2,e3,e4,er⟩:=zay hrc (Below.refl _ _) (show (x::r)[0]?=some x from rfl)
 subst ho1
 replace e0:=(zac e0).2
 replace e1:=(zac e1).2
 replace e2:=(zac e2).2
 replace e3:=(zac e3).2
 replace e4:=(zac e4).2
 simp only[Nat.zero_mul,Nat.add_zero] at e0 e1 e2 e3 e4
 have el:=zai e0
 obtain ⟨q,hq⟩:∃q,((Sy.split x).2.kind==4)=q:=⟨_,rfl⟩
 have HC:=zh (zbm S x (.agg #[.int .i64 k1,.int .i64 n1,.int .i64 d1,.string s1,.slice o1 len1 cap1]) B w q hq hS (by rw[hx1];exact er) hB hsh hal)
 have hlen0:0<len:=by rw[hln];simp
 have HLN:=zh hln
 have HQ:=zh hq
 have HSA:=zh (za4 x)
 have HAL:=zh hal
 have HRL:=zh hrl
 have hlenb:len≤1000001:=by rw[hln];simp;omega
 clear hrc er hx1 hln hq hal hrl hsh
 go_enter func163,ntmps163
 go_upto_region 2 with (first | (go_at_call 73;refine HC.out.mono ?_;rintro e' w1 ⟨o',len',cap',rfl,hl1,hb1⟩) | fail)
 have HL1:=zh hl1
 have HB1:=zh hb1
 have HLL:=zh (zbj hl1).1
 clear hl1 hb1 e0 e1 e2 e3 e4 el
 by_cases hok:q=true∧least≤len'
 ·obtain ⟨rfl,hle2⟩:=hok
  have hge:decide ((len':Int)≥(least:Int))=true:=by simp;omega
  go_upto_region 3 with (first | (go_at_call 30;refine (zag _).mono ?_;rintro e' w2 ⟨⟨v2,rfl⟩,rfl⟩) | fail)
  obtain ⟨c,cs,hcs⟩:∃c cs,(Sy.split x).1=c::cs:=by
   have:=HLL.out
   match h:(Sy.split x).1 with
   | c::cs=>exact ⟨c,cs,rfl⟩
   | []=>rw[h] at this;simp at this;omega
  have hl1:=HL1.out
  rw[hcs] at hl1
  obtain ⟨o6,len6,cap6,he6,hl6,hc6,hm6,hr6⟩:=hl1
  simp only[Value.slice.injEq] at he6
  obtain ⟨rfl,rfl,rfl⟩:=he6
  obtain ⟨b2,off2,k2,n2,d2,s2,l2,o2,len2,cap2,ho2,hx2,f0,f1,f2,f3,f4,fr⟩:=zay hr6 (Below.refl _ _) (show (c::cs)[0]?=some c from rfl)
  subst ho2
  replace f0:=(zac f0).2
  replace f1:=(zac f1).2
  replace f2:=(zac f2).2
  replace f3:=(zac f3).2
  replace f4:=(zac f4).2
  simp only[Nat.zero_mul,Nat.add_zero] at f0 f1 f2 f3 f4
  have fl:=zai f0
  have hl0:0<len':=by omega
  obtain ⟨last,hlast⟩:∃last,(k2==2&&s2.data.toList==Sy.elseB.data.toList)=last:=⟨_,rfl⟩
  have HIS:=zh (zjz k2 n2 d2 s2 Sy.elseB o2 len2 cap2 w2 last hlast)
  have HNM:=zh (show Sy.isNm ((Sy.split x).1.headD Dat.null) Sy.elseB=last from by rw[hcs,List.headD_cons,hx2];exact hlast)
  have HK:=zh (show (Sy.split x).2.kind=4∧least≤(Sy.split x).1.length from ⟨by simpa using HQ.out,by rw[←HLL.out];exact hle2⟩)
  clear hr6 hl6 hx2 hlast hcs fr
  go_upto_region 4 with (first | (go_at_call 74;refine HIS.out.mono ?_;rintro e' w3 ⟨rfl,hb3⟩) | fail)
  have HB3:=zh hb3
  clear hb3 f0 f1 f2 f3 f4 fl
  by_cases hfin:last=false∨r=[]
  ·have HCL:=zh (show Sy.clause x r least=some ((Sy.split x).1,last) from by unfold Sy.clause;rw[if_pos HK.out,HNM.out,if_pos hfin])
   have hl1:last=true→len=1:=fun h=>by
    have:=HLN.out
    rcases hfin with h' | h'
    ·rw[h] at h';cases h'
    ·rw[this,h'];rfl
   cases last
   ·go_wp2_with (first | (go_at_call 30;refine (zag _).mono ?_;rintro e' w2 ⟨⟨v2,rfl⟩,rfl⟩) | fail)
    refine bodyPost_ret (v:=.tuple #[.slice (some ⟨b2,off2,none⟩) len' cap',.bool false]) (by simp[results,results163,go_sem]) rfl ?_
    rw[HCL.out]
    exact ⟨HB1.out.trans (HB3.out.mono HB1.out.size),_,_,_,rfl,HL1.out.shown (Shown.below HB3.out) HB3.out.size⟩
   ·have hl1':=hl1 rfl
    subst hl1'
    go_wp2_with (first | (go_at_call 30;refine (zag _).mono ?_;rintro e' w2 ⟨⟨v2,rfl⟩,rfl⟩) | fail)
    refine bodyPost_ret (v:=.tuple #[.slice (some ⟨b2,off2,none⟩) len' cap',.bool true]) (by simp[results,results163,go_sem]) rfl ?_
    rw[HCL.out]
    exact ⟨HB1.out.trans (HB3.out.mono HB1.out.size),_,_,_,rfl,HL1.out.shown (Shown.below HB3.out) HB3.out.size⟩
  ·have HCL:=zh (show Sy.clause x r least=none from by unfold Sy.clause;rw[if_pos HK.out,HNM.out,if_neg hfin])
   cases last
   ·exact absurd (.inl rfl) hfin
   ·have hne:((len:Int)==1)=false:=by
     have:=HLN.out
     have hr0:r≠[]:=fun h=>hfin (.inr h)
     have:r.length≠0:=by simpa using hr0
     simp only[beq_eq_false_iff_ne,ne_eq]
     simp only[List.length_cons] at *
     omega
    go_wp2_with (first | (go_at_call 30;refine (zaf _).mono ?_;rintro e' w2 ⟨rfl,rfl⟩) | fail)
    refine ⟨rfl,?_⟩
    rw[HCL.out]
    exact ⟨HB1.out.trans (HB3.out.mono HB1.out.size),rfl⟩
 ·have HCL:=zh (show Sy.clause x r least=none from by
   unfold Sy.clause
   rw[if_neg fun h=>hok ⟨by rw[←HQ.out];simpa using h.1,by rw[HLL.out];exact h.2⟩])
  cases q
  ·go_wp2_with (first | (go_at_call 30;refine (zaf _).mono ?_;rintro e' w2 ⟨rfl,rfl⟩) | fail)
   refine ⟨rfl,?_⟩
   rw[HCL.out]
   exact ⟨HB1.out,rfl⟩
  ·have hge:decide (least≤len')=false:=by simp at hok ⊢;omega
   go_wp2_with (first | (go_at_call 30;refine (zaf _).mono ?_;rintro e' w2 ⟨rfl,rfl⟩) | fail)
   refine ⟨rfl,?_⟩
   rw[HCL.out]
   exact ⟨HB1.out,rfl⟩
end
section
open Go Go.RowKit
def XP (W:World) (b:Nat) (n:Nat):Prop:=BoxL W b 45 [.int .i64 n]
theorem XP.ne {W:World} {b n:Nat} (h:XP W b n) (hE:Env W):b≠1:=by
 rintro rfl
 have hg : prog.globalNamed "internal/strconv.uint64pow10" = some 1 := by kernel_rfl
 unfold Env Lib.TabIs World.var? at hE
 rw[hg] at hE
 simp only[Option.bind_some] at hE
 unfold XP BoxL at h
 rw[h] at hE
 simp only[Option.some.injEq] at hE
 have h1:=congrArg Array.size hE
 simp only[List.size_toArray,List.length_map,List.length_cons,List.length_nil] at h1
 exact absurd h1 (by decide)
theorem Env.turned {W W':World} {b n:Nat} (hE:Env W) (h:XP W b n) (ht:Turned (fun c=>c=b) W W'):Env W':=by
 have hne:=h.ne hE
 have hg : prog.globalNamed "internal/strconv.uint64pow10" = some 1 := by kernel_rfl
 have hlt:=zjr hg hE
 unfold Env Lib.TabIs World.var? at hE ⊢
 rw[hg] at hE ⊢
 simp only[Option.bind_some] at hE ⊢
 rw[ht.block _ hlt (fun h=>hne h.symm)]
 exact hE
theorem Turned.seq {S:Nat→Prop} {A B C:World} (h:Turned S A B) (hb:Below A.heap.size B C):Turned S A C:=
 ⟨hb.os.trans h.os,hb.tape.trans h.tape,hb.output.trans h.output,Nat.le_trans h.size hb.size,fun b hlt hn=>(hb.block b hlt).trans (h.block b hlt hn)⟩
namespace Sy
def freshB (k:Nat):ByteArray:=⟨(37::Lib.itoa k).toArray⟩
def freshD (k:Nat):Dat:=sym (freshB k)
end Sy
def XPost (S:Nat→Prop) (b:Nat) (x:Dat) (n:Nat) (w:World) (e:Ending) (w':World):Prop:=∃v,e=.returned v∧RepD (hide w' S) w'.heap.size x v∧Turned (fun c=>c=b) w w'∧XP w' b n
theorem zbP (S:Nat→Prop) (b n:Nat) (w:World) (_hS:∀b,S b→b<w.heap.size) (_hb:S b) (hx:XP w b n) (hE:Env w) (hn:n≤1000000) :
  Calls prog 147 #[.pointer (some ⟨b,0,none⟩)] w (XPost S b (Sy.freshD (n+1)) (n+1) w):=by
 obtain ⟨W0,hW0⟩:∃W0,w.alloc (.cells #[.int .i64 0,.int .i64 0,.int .i64 0,.string ⟨#[]⟩,.slice none 0 0] 26)=W0:=⟨_,rfl⟩
 have hbl:Below w.heap.size w W0:=by rw[←hW0];exact Below.one _ _
 have hx0:XP W0 b n:=hx.keep hbl
 have c0:=hx0.cell 0 rfl
 have z0:=hx0.free 0
 have cl:=hx0.lt
 have hw:w.heap.size≠b:=fun h=>by have:=hx.lt;omega
 have hbx:Box5 W0 w.heap.size 26 (.int .i64 0) (.int .i64 0) (.int .i64 0) (.string ⟨#[]⟩) (.slice none 0 0):=by rw[←hW0];exact Box5.new w _ _ _ _ _ _
 have HW0:=zh hW0
 have hx1:XP (W0.setCell ⟨b,0,none⟩ (.int .i64 ((n:Int)+1))) b (n+1):=by have h:=hx0.set 0 (.int .i64 ((n:Int)+1));exact h
 have ht1:Turned (fun c=>c=b) w (W0.setCell ⟨b,0,none⟩ (.int .i64 ((n:Int)+1))):=(Turned.of_below hbl).next (Turned.set W0 ⟨b,0,none⟩ _ rfl)
 have hb1:Box5 (W0.setCell ⟨b,0,none⟩ (.int .i64 ((n:Int)+1))) w.heap.size 26 (.int .i64 0) (.int .i64 0) (.int .i64 0) (.string ⟨#[]⟩) (.slice none 0 0):=(zau W0 ⟨b,0,none⟩ _ hw).trans hbx
 have he1:Env (W0.setCell ⟨b,0,none⟩ (.int .i64 ((n:Int)+1))):=Env.turned hE hx ht1
 have HX1:=zh hx1
 have HT1:=zh ht1
 have HB1:=zh hb1
 have HE1:=zh he1
 clear hW0 hx1 ht1 hb1 he1 hbx
 go_enter func147,ntmps147
 go_upto_region 1 with fail
 rw[HW0.out]
 go_upto_region 2 with fail
 generalize W0.setCell ⟨b,0,none⟩ (.int .i64 ((n:Int)+1))=W1 at HX1 HT1 HB1 HE1 ⊢
 clear c0 z0 cl
 have c1:=HX1.out.cell 0 rfl
 have cl:=HX1.out.lt
 have hs0:w.heap.size<W1.heap.size:=HB1.out.lt
 have hl21:=Lib.itoa_length_le ((n:Int)+1) (by omega) (by omega)
 have hlen:¬9223372036854775807<1+(Lib.itoa ((n:Int)+1)).length:=by omega
 go_wp2_with (first | (go_at_call 98;refine (zdH ((n+1:Nat):Int) (by omega) (by omega) _ HE1.out).mono ?_;rintro e' w2 ⟨rfl,hb2⟩) | (go_at_call 90;refine (zdY _ _).mono ?_;rintro e' w3 ⟨rfl,hb3⟩;have hx3:Box5 w3 w.heap.size 26 (.int .i64 0) (.int .i64 0) (.int .i64 0) (.string ⟨#[]⟩) (.slice none 0 0):=(hb3.block _ (Nat.lt_of_lt_of_le hs0 hb2.size)).trans ((hb2.block _ hs0).trans HB1.out);obtain ⟨p0,p1,p2,p3,p4⟩:=hx3.cells;obtain ⟨z0,z1,z2,z3,z4⟩:=hx3.free;have pl:=hx3.lt;have HX3:=zh hx3;clear hx3) | fail)
 have hq:((⟨#[37]⟩:ByteArray)++(⟨(Lib.itoa ((n:Int)+1)).toArray⟩:ByteArray))=Sy.freshB (n+1):=zg9 [37] (Lib.itoa ((n:Int)+1))
 rw[hq]
 have HR5:=zh (HX3.out.set (.int .i64 2) (.int .i64 0) (.int .i64 0) (.string (Sy.freshB (n+1))) (.slice none 0 0))
 obtain ⟨r0,r1,r2,r3,r4⟩:=HR5.out.cells
 refine bodyPost_ret (v:=.agg #[.int .i64 2,.int .i64 0,.int .i64 0,.string (Sy.freshB (n+1)),.slice none 0 0]) (by simp[results,results147,go_sem,r0,r1,r2,r3,r4]) rfl ?_
 have h5:=zah w3 w.heap.size w.heap.size (.int .i64 2) (.int .i64 0) (.int .i64 0) (.string (Sy.freshB (n+1))) (.slice none 0 0) (Nat.le_refl _)
 have ht:Turned (fun c=>c=b) w (set5 w3 w.heap.size (.int .i64 2) (.int .i64 0) (.int .i64 0) (.string (Sy.freshB (n+1))) (.slice none 0 0)):=((HT1.out.next (Turned.of_below hb2)).next (Turned.of_below hb3)).seq h5
 refine ⟨_,rfl,zg8 _ ?_,ht,?_⟩
 ·rw[←hq,ByteArray.size_append]
  show 1+(Lib.itoa ((n:Int)+1)).toArray.size≤_
  rw[List.size_toArray]
  omega
 ·exact (zal w3 _ _ _ _ _ _ (fun h=>hw h.symm)).trans (((hb3.block _ (Nat.lt_of_lt_of_le cl hb2.size)).trans (hb2.block _ cl)).trans HX1.out)
end
section
open Go Go.RowKit
namespace Sy
abbrev M (α:Type):=Nat→Option (Option (α × Nat))
def ret {α:Type} (a:α):M α:=fun n=>some (some (a,n))
def bad {α:Type}:M α:=fun _=>some none
def bnd {α β:Type} (m:M α) (k:α→M β):M β:=fun n=>match m n with
 | none=>none
 | some none=>some none
 | some (some (a,n'))=>k a n'
def need {α:Type} (b:Bool) (m:M α):M α:=if b then m else bad
def within {α:Type} (b:Bool) (m:M α):M α:=fun n=>if b then m n else none
def fresh:M Dat:=fun n=>if n≤1000000 then some (some (freshD (n+1),n+1)) else none
def form (s:ByteArray) (l:List Dat):Dat:=Dat.list (sym s::l)
def quoteB:ByteArray:=⟨#[113,117,111,116,101]⟩
def ifB:ByteArray:=⟨#[105,102]⟩
def lambdaB:ByteArray:=⟨#[108,97,109,98,100,97]⟩
def setB:ByteArray:=⟨#[115,101,116,33]⟩
def beginB:ByteArray:=⟨#[98,101,103,105,110]⟩
def letrecB:ByteArray:=⟨#[108,101,116,114,101,99]⟩
def letrecSB:ByteArray:=⟨#[108,101,116,114,101,99,42]⟩
def defineB:ByteArray:=⟨#[100,101,102,105,110,101]⟩
def letB:ByteArray:=⟨#[108,101,116]⟩
def letSB:ByteArray:=⟨#[108,101,116,42]⟩
def condB:ByteArray:=⟨#[99,111,110,100]⟩
def caseB:ByteArray:=⟨#[99,97,115,101]⟩
def andB:ByteArray:=⟨#[97,110,100]⟩
def orB:ByteArray:=⟨#[111,114]⟩
def whenB:ByteArray:=⟨#[119,104,101,110]⟩
def unlessB:ByteArray:=⟨#[117,110,108,101,115,115]⟩
def doB:ByteArray:=⟨#[100,111]⟩
def arrowB:ByteArray:=⟨#[61,62]⟩
def eqB:ByteArray:=⟨#[37,101,113,63]⟩
def all (E:Dat→M Dat):List Dat→M (List Dat)
 | []=>ret []
 | x::l=>bnd (E x) fun y=>bnd (all E l) fun r=>ret (y::r)
def begin (E:Dat→M Dat) (l:List Dat):M Dat:=need (!l.isEmpty) (bnd (all E l) fun r=>ret (form beginB r))
def define (E:Dat→M Dat) (L:Dat→List Dat→M Dat) (x:Dat):Option (M (Dat × Dat)):=
 match (split x).1 with
 | []=>none
 | h::t=>
  if (split x).2.kind=4∧isNm h defineB=true then
   some (match t with
    | []=>bad
    | [_]=>bad
    | name::v::r=>
     if name.kind=6 then (match name.l with
      | [a,f]=>bnd (L f (v::r)) fun y=>ret (a,y)
      | _=>bad)
     else need r.isEmpty (bnd (E v) fun y=>ret (name,y)))
  else none
def bodyF (E:Dat→M Dat) (L:Dat→List Dat→M Dat):List Dat→List Dat→List Dat→M Dat
 | [],_,_=>bad
 | x::r,names,values=>match define E L x with
  | some m=>bnd m fun p=>bodyF E L r (names++[p.1]) (values++[p.2])
  | none=>need (distinct names) (bnd (if r.isEmpty then E x else begin E (x::r)) fun rest=>
    ret (if names.isEmpty then rest else form letrecSB [pairs names values,rest]))
def body (E:Dat→M Dat) (L:Dat→List Dat→M Dat) (l:List Dat):M Dat:=bodyF E L l [] []
def lambda (E:Dat→M Dat) (L:Dat→List Dat→M Dat) (f:Dat) (b:List Dat):M Dat:=need (formals f) (bnd (body E L b) fun y=>ret (form lambdaB [f,y]))
def over (E:Dat→M Dat) (v b a:Dat):M Dat:=bnd (E a) fun y=>ret (Dat.list [form lambdaB [Dat.list [v],b],y])
def letF (E:Dat→M Dat) (L:Dat→List Dat→M Dat) (names values:List Dat) (b:List Dat):M Dat:=
 need (distinct names) (bnd (L (Dat.list names) b) fun f=>bnd (all E values) fun r=>ret (Dat.list (f::r)))
def chainF (E:Dat→M Dat) (L:Dat→List Dat→M Dat):List Dat→List Dat→List Dat→M Dat
 | n::ns,v::vs,b=>need (isVar n) (bnd (chainF E L ns vs b) fun r=>over E n r v)
 | _,_,b=>letF E L [] [] b
def loopF (E:Dat→M Dat) (f g:Dat) (values:List Dat):M Dat:=
 bnd (all E values) fun r=>ret (Dat.list (form letrecB [Dat.list [Dat.list [f,g]],f]::r))
def orBad {α:Type} (o:Option (List Dat × List Dat)) (k:List Dat→List Dat→M α):M α:=match o with
 | none=>bad
 | some p=>k p.1 p.2
def namedF (E:Dat→M Dat) (L:Dat→List Dat→M Dat) (f b:Dat) (body:List Dat):M Dat:=
 orBad (binds b) fun names values=>need (distinct names) (bnd (L (Dat.list names) body) fun g=>loopF E f g values)
def andF (E:Dat→M Dat):List Dat→M Dat
 | []=>ret (truth 1)
 | [x]=>E x
 | x::r=>bnd (E x) fun a=>bnd (andF E r) fun b=>ret (form ifB [a,b,truth 0])
def orF (E:Dat→M Dat):List Dat→M Dat
 | []=>ret (truth 0)
 | [x]=>E x
 | x::r=>bnd fresh fun v=>bnd (orF E r) fun d=>over E v (form ifB [v,v,d]) x
def condF (E:Dat→M Dat):List Dat→M Dat
 | []=>ret void
 | x::r=>match clause x r 1 with
  | none=>bad
  | some (c,true)=>begin E c.tail
  | some ([],false)=>bad
  | some ([a],false)=>bnd fresh fun v=>bnd (condF E r) fun d=>over E v (form ifB [v,v,d]) a
  | some (a::b::t,false)=>
   if isNm b arrowB=true then
    (match t with
     | [g]=>bnd fresh fun v=>bnd (E g) fun f=>bnd (condF E r) fun d=>over E v (form ifB [v,Dat.list [f,v],d]) a
     | _=>bad)
   else bnd (E a) fun y=>bnd (begin E (b::t)) fun z=>bnd (condF E r) fun d=>ret (form ifB [y,z,d])
def test (v:Dat) (data:List Dat):Dat:=data.foldr (fun d t=>form ifB [Dat.list [sym eqB,v,const d],truth 1,t]) (truth 0)
def choiceF (E:Dat→M Dat) (v:Dat):List Dat→M Dat
 | []=>ret void
 | x::r=>match clause x r 2 with
  | none=>bad
  | some (c,true)=>begin E c.tail
  | some ([],false)=>bad
  | some (a::t,false)=>need ((split a).2.kind==4) (bnd (begin E t) fun b=>bnd (choiceF E v r) fun d=>ret (form ifB [test v (split a).1,b,d]))
def steps:List Dat→Option (List Dat × List Dat × List Dat)
 | []=>some ([],[],[])
 | x::r=>if (split x).2.kind=4 then
   (match (split x).1 with
    | [a,b]=>(steps r).map fun p=>(a::p.1,b::p.2.1,a::p.2.2)
    | [a,b,c]=>(steps r).map fun p=>(a::p.1,b::p.2.1,c::p.2.2)
    | _=>none)
  else none
def doF (E:Dat→M Dat) (b t:Dat) (l:List Dat):M Dat:=
 need ((split b).2.kind==4&&((split t).2.kind==4 && !(split t).1.isEmpty))
  (bnd fresh fun f=>match steps (split b).1 with
   | none=>bad
   | some (names,values,again)=>need (distinct names)
    (bnd (E ((split t).1.headD Dat.null)) fun test=>
     bnd (if (split t).1.tail.isEmpty then ret void else begin E (split t).1.tail) fun out=>
      bnd (begin E (l++[Dat.list (f::again)])) fun go=>
       loopF E f (form lambdaB [Dat.list names,form ifB [test,out,go]]) values))
def derivedF (E:Dat→M Dat) (key:ByteArray) (l:List Dat):M Dat:=
 if key=andB then andF E l
 else if key=orB then orF E l
 else if key=whenB then (match l with
  | x::y::r=>bnd (E x) fun a=>bnd (begin E (y::r)) fun b=>ret (form ifB [a,b,void])
  | _=>bad)
 else if key=unlessB then (match l with
  | x::y::r=>bnd (E x) fun a=>bnd (begin E (y::r)) fun b=>ret (form ifB [a,void,b])
  | _=>bad)
 else if key=condB then condF E l
 else if key=caseB then (match l with
  | x::r=>bnd fresh fun v=>bnd (choiceF E v r) fun d=>over E v d x
  | []=>bad)
 else if key=doB then (match l with
  | b::t::r=>doF E b t r
  | _=>bad)
 else bad
def formF (E:Dat→M Dat) (L:Dat→List Dat→M Dat) (key:ByteArray) (l:List Dat):M Dat:=
 if key=quoteB then (match l with | [x]=>ret (const x) | _=>bad)
 else if key=ifB then (match l with
  | [_,_]=>bnd (all E l) fun r=>ret (form ifB (r++[void]))
  | [_,_,_]=>bnd (all E l) fun r=>ret (form ifB r)
  | _=>bad)
 else if key=lambdaB then (match l with | f::b::r=>L f (b::r) | _=>bad)
 else if key=setB then (match l with | [x,y]=>need (isVar x) (bnd (E y) fun v=>ret (form setB [x,v])) | _=>bad)
 else if key=beginB then begin E l
 else if key=letrecB∨key=letrecSB then (match l with
  | x::b::r=>orBad (binds x) fun names values=>need (distinct names) (bnd (all E values) fun vs=>bnd (body E L (b::r)) fun y=>ret (form key [pairs names vs,y]))
  | _=>bad)
 else if key=letSB then (match l with
  | x::b::r=>orBad (binds x) fun names values=>chainF E L names values (b::r)
  | _=>bad)
 else if key=letB then (match l with
  | x::b::r=>if isVar x then (match r with | c::r=>namedF E L x b (c::r) | []=>bad)
   else orBad (binds x) fun names values=>letF E L names values (b::r)
  | _=>bad)
 else derivedF E key l
def exprF (E:Dat→M Dat) (L:Dat→List Dat→M Dat) (x:Dat):M Dat:=
 if x.kind=2 then need (isVar x) (ret x)
 else if x.kind=4 then bad
 else if x.kind=6 then need ((split x).2.kind==4) (match (split x).1 with
  | []=>bad
  | h::t=>if h.kind=2∧keyword h.s=true then formF E L h.s t else bnd (all E (h::t)) fun r=>ret (Dat.list r))
 else ret (const x)
def small (x:Dat):Bool:=Dat.shaped x&&decide (Dat.all x≤100000)
mutual
def expr:Nat→Dat→M Dat
 | 0,_=>fun _=>none
 | f+1,x=>within (small x) (exprF (expr f) (lam f) x)
def lam:Nat→Dat→List Dat→M Dat
 | 0,_,_=>fun _=>none
 | f+1,x,b=>within (small x&&(b.all small&&decide (b.length≤100000))) (lambda (expr f) (lam f) x b)
end
end Sy
end
section
open Go Go.RowKit
def XRes (S:Nat→Prop) (b:Nat) (r:Option (Dat × Nat)) (w:World) (e:Ending) (w':World):Prop:=match r with
 | some (x,n)=>XPost S b x n w e w'
 | none=>e=.panicked badE∧Turned (fun c=>c=b) w w'
def EOk (E:Dat→Sy.M Dat):Prop:=∀(S:Nat→Prop) (b n:Nat) (x:Dat) (v:Value) (w:World) (r:Option (Dat × Nat)),E x n=some r→(∀c,S c→c<w.heap.size)→S b→XP w b n→Env w→RepD (hide w S) w.heap.size x v →
 Calls prog 50 #[.pointer (some ⟨b,0,none⟩),v] w (XRes S b r w)
def XAll (S:Nat→Prop) (b:Nat) (r:Option (List Dat × Nat)) (w:World) (e:Ending) (w':World):Prop:=match r with
 | some (ys,n)=>∃v,e=.returned v∧GrownS w' S w.heap.size ys v∧Turned (fun c=>c=b) w w'∧XP w' b n
 | none=>e=.panicked badE∧Turned (fun c=>c=b) w w'
def AlI (S:Nat→Prop) (b:Nat) (E:Dat→Sy.M Dat) (l:List Dat) (r:Option (List Dat × Nat)) (w:World) (g:Nat) (ov iv:Value) (wr:World):Prop:=Hid (∃(i n:Nat) (ys:List Dat),iv=.int .i64 i∧g=l.length-i∧i≤l.length∧ys.length=i∧GrownS wr S w.heap.size ys ov∧Turned (fun c=>c=b) w wr∧XP wr b n∧Env wr∧Sy.bnd (Sy.all E (l.drop i)) (fun r=>Sy.ret (ys++r)) n=some r)
theorem zbn {E:Dat→Sy.M Dat} (hE:EOk E) (S:Nat→Prop) (b n:Nat) (l:List Dat) (sl:Value) (w:World) (r:Option (List Dat × Nat)) (hr:Sy.all E l n=some r) (hS:∀c,S c→c<w.heap.size) (hb:S b) (hx:XP w b n) (hV:Env w) (hv:RepS (hide w S) w.heap.size l sl) (hl:l.length≤100000) :
  Calls prog 88 #[.pointer (some ⟨b,0,none⟩),sl] w (XAll S b r w):=by
 obtain ⟨o,len,cap,rfl,hln,hcp,hmx, -⟩:=id hv
 have HI0:=zh (show AlI S b E l r w l.length (.slice none 0 0) (.int .i64 0) w from
  zh ⟨0,n,[],rfl,rfl,Nat.zero_le _,rfl,GrownS.nil _ hS (Nat.le_refl _),Turned.refl _ _,hx,hV,by
   rw[List.drop_zero]
   unfold Sy.bnd
   rw[hr]
   match r with
   | none=>rfl
   | some (ys,n')=>rfl⟩)
 have HL:=zh hv
 have HLN:=zh hln
 have HS:=zh hS
 have HB:=zh hb
 have HE:=zh hE
 have HV0:=zh hV
 have HX0:=zh hx
 have hlb:len≤100000:=by omega
 clear hv hln hS hb hx hV hr hl hE
 go_enter func88,ntmps88
 go_upto_region 3 with fail
 go_loopg [5,10] l.length (fun g ov iv wr=>AlI S b E l r w g ov iv wr)
 case atStart=>exact HI0.out
 case round=>
  obtain ⟨i,n1,ys,rfl,rfl,hi,hys,hg,ht,hx,hV,hrr⟩:=hrel.out
  clear hrel HI0
  by_cases hlt:i<len
  ·obtain ⟨x,hxx⟩:∃x,l[i]?=some x:=⟨_,List.getElem?_eq_getElem (by rw[←HLN.out];exact hlt)⟩
   have hli:i<l.length:=by rw[←HLN.out];exact hlt
   have hdrop:l.drop i=x::l.drop (i+1):=by
    rw[List.drop_eq_getElem_cons hli]
    congr 1
    exact (List.getElem?_eq_some_iff.1 hxx).2
   have hsh:Shown w S wr (SR S u5):=fun c o' u hc hu=>by
    have hcl:=zai hu
    refine ⟨fun h=>?_,(Shown.turned (S:=S) ht (fun c' _ h=>by subst h;exact HB.out) c o' u hc hu).2⟩
    rcases h with h | h
    ·exact hc h
    ·have:=(hg.block h).1;omega
   obtain ⟨o6,len6,cap6,he6,hl6,hc6,hm6,hr6⟩:=HL.out.shown hsh ht.size
   simp only[Value.slice.injEq] at he6
   obtain ⟨rfl,rfl,rfl⟩:=he6
   obtain ⟨b1,off1,k1,m1,d1,s1,l1,o1,len1,cap1,ho1,hx1,e0,e1,e2,e3,e4,er⟩:=zay hr6 (Below.refl _ _) hxx
   subst ho1
   replace e0:=(zac e0).2
   replace e1:=(zac e1).2
   replace e2:=(zac e2).2
   replace e3:=(zac e3).2
   replace e4:=(zac e4).2
   have er':RepD (hide wr (SR S u5)) wr.heap.size x (.agg #[.int .i64 k1,.int .i64 m1,.int .i64 d1,.string s1,.slice o1 len1 cap1]):=by rw[hx1];exact er
   rw[hdrop] at hrr
   have hone:Below wr.heap.size wr (wr.alloc (.cells #[.int .i64 k1,.int .i64 m1,.int .i64 d1,.string s1,.slice o1 len1 cap1] 26)):=Below.one _ _
   have hbn:Box5 (wr.alloc (.cells #[.int .i64 k1,.int .i64 m1,.int .i64 d1,.string s1,.slice o1 len1 cap1] 26)) wr.heap.size 26 (.int .i64 k1) (.int .i64 m1) (.int .i64 d1) (.string s1) (.slice o1 len1 cap1):=Box5.new wr _ _ _ _ _ _
   have HG1:=zh (hg.below hone)
   have HT1:=zh (ht.next (Turned.of_below hone))
   have HX1:=zh (show XP _ b n1 from hx.keep hone)
   have HV1:=zh (hV.below hone)
   have HR1:=zh (er'.shown (Shown.below hone) hone.size)
   have HYS:=zh hys
   have HLI:=zh hli
   have HRR:=zh hrr
   have HZ:=zh hone.size
   clear er er' hx1 hr6 hl6 hxx hsh hg ht hx hV hys hrr hdrop hi hone
   go_upto_region 5 with fail
   generalize wr.alloc (.cells #[.int .i64 k1,.int .i64 m1,.int .i64 d1,.string s1,.slice o1 len1 cap1] 26)=W1 at *
   obtain ⟨q0,q1,q2,q3,q4⟩:=hbn.cells
   have ql:=hbn.lt
   obtain ⟨r1,hr1⟩:∃r1,E x n1=r1:=⟨_,rfl⟩
   have hSL:=sr_lt HG1.out (Nat.le_refl _)
   match r1,hr1 with
   | none,hr1=>
    have h:=HRR.out
    simp only[Sy.all,Sy.bnd,hr1] at h
    cases h
   | some none,hr1=>
    have hrn:r=none:=by
     have h:=HRR.out
     simp only[Sy.all,Sy.bnd,hr1] at h
     exact (Option.some.inj h).symm
    subst hrn
    have HC:=zh (HE.out (SR S u5) b n1 x _ W1 none hr1 hSL (.inl HB.out) HX1.out HV1.out HR1.out)
    clear hSL hr1
    go_wp2_with (first | (go_at_call 50;refine HC.out.mono ?_;rintro e' w8 ⟨rfl,ht8⟩) | fail)
    exact ⟨rfl,rfl,HT1.out.next ht8⟩
   | some (some (y,n2)),hr1=>
    have HC:=zh (HE.out (SR S u5) b n1 x _ W1 (some (y,n2)) hr1 hSL (.inl HB.out) HX1.out HV1.out HR1.out)
    have HR2:=zh (show Sy.bnd (Sy.all E (l.drop (i+1))) (fun r=>Sy.ret ((ys++[y])++r)) n2=some r from by
     have h:=HRR.out
     simp only[Sy.all,Sy.bnd,hr1] at h
     rw[←h]
     simp only[Sy.bnd]
     cases h2:Sy.all E (l.drop (i+1)) n2 with
     | none=>rfl
     | some q=>
      cases q with
      | none=>rfl
      | some p=>simp[Sy.ret])
    have HSL:=zh hSL
    clear hSL hr1
    go_upto_region 6 with (first | (go_at_call 50;refine HC.out.mono ?_;rintro e' w8 ⟨v8,rfl,hr8,ht8,hx8⟩;obtain ⟨k8,m8,d8,s8,o8,len8,cap8,rfl⟩:=zae hr8.unhide;have HG8:=zh ((HG1.out.turned ht8 (fun c _ h=>by subst h;exact HB.out)).below (Below.one w8 (.cells #[.int .i64 k8,.int .i64 m8,.int .i64 d8,.string s8,.slice o8 len8 cap8] 26)));have HK8:=zh (zaA (fun c hc=>Nat.lt_of_lt_of_le (HSL.out c hc) ht8.size) hr8)) | (at_builtin;go_loud (refine zam rfl fun K hK=>zaC (S:=S) (.tmp 14) (.tmp 18) rfl w.heap.size u5 (.slice (some ⟨w8.heap.size,0,none⟩) 1 1) ys [y] rfl HG8 rfl HK8 (by have:=HYS.out;have:=HLI.out;have:=HLN.out;simp;omega) fun o9 len9 cap9 w9 h9 h10 h11 h12=>hK _ _ ?_)) | fail)
    have hone8:Below w8.heap.size w8 (w8.alloc (.cells #[.int .i64 k8,.int .i64 m8,.int .i64 d8,.string s8,.slice o8 len8 cap8] 26)):=Below.one _ _
    have ht9:Turned (fun c=>c=b) w w9:=(((HT1.out.next ht8).next (Turned.of_below hone8)).seq h10.out)
    have hx9:XP w9 b n2:=(h10.out.block b (HS.out b HB.out)).trans (hx8.keep hone8)
    go_wp2_with fail
    go_roundg (l.length-(i+1))
    case measure=>have:=HLI.out;omega
    case rel=>
     exact zh ⟨i+1,n2,ys++[y],by go_num,rfl,by have:=HLI.out;omega,by rw[List.length_append,HYS.out];rfl,h9.out,ht9,hx9,Env.turned HV0.out HX0.out ht9,HR2.out⟩
  ·have hlast:i=l.length:=by have:=HLN.out;omega
   rw[hlast,List.drop_length] at hrr
   simp only[Sy.all,Sy.bnd,Sy.ret,List.append_nil,Option.some.injEq] at hrr
   subst hrr
   go_wp2_with fail
   go_ret
   exact ⟨_,rfl,hg,ht,hx⟩
end
end Go.Proofs.YtnbjhmafnigefaaGreatDoor
