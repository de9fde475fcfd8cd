/- The law HeadHops returns true at every input whose tables read as laid; each argument reads behind the call as it did; the tied card. -/
import Derived.Test.YtfnnmecilcnloaaDoorM3
import Derived.Below
import Derived.Deep.Slices
import Derived.Carry
import Derived.Test.YtfnnmecilcnloaaDoorRows
import Derived.ProofKit
import Derived.LaidMore
import Derived.Lib.LaidTab
import Derived.Shelf.Vars
import Derived.HandedShaped
import Derived.Test.YtfnnmecilcnloaaDoorCards
import Derived.Test.YtfnnmecilcnloaaDoorTie
import Derived.SevenTiedAt
set_option linter.unusedSimpArgs false
set_option linter.unusedVariables false
set_option linter.unusedSectionVars false
set_option linter.defProp false
section
set_option maxRecDepth 100000
namespace Go.Proofs.ct
open Go Go.Am Go.Proofs
def S (f:Nat→Nat):Nat→Nat→Nat
 |_,0=>0
 |y,k+1=>f y+S f (y+1) k
theorem Dc {f:Nat→Nat}:∀ {k k2 y a b:Nat},S f y k+a=S f y k2+b→a<f (y+k)→b<f (y+k2)→k=k2∧a=b
 |0,0,y,a,b,h,_,_=>by simp [S] at h;exact ⟨rfl,h⟩
 |0,k2+1,y,a,b,h,ha,_=>by simp only [S] at h;simp only [Nat.add_zero] at ha;omega
 |k+1,0,y,a,b,h,_,hb=>by simp only [S] at h;simp only [Nat.add_zero] at hb;omega
 |k+1,k2+1,y,a,b,h,ha,hb=>by
  simp only [S] at h
  have:=Dc (f:=f) (k:=k) (k2:=k2) (y:=y+1) (a:=a) (b:=b) (by omega) (by rw [show y+1+k=y+(k+1) by omega];exact ha) (by rw [show y+1+k2=y+(k2+1) by omega];exact hb)
  exact ⟨by omega,this.2⟩
theorem yp (f:Nat→Nat):∀(a b y:Nat),S f y (a+b)=S f y a+S f (y+a) b
 |0,b,y=>by simp [S]
 |a+1,b,y=>by rw [Nat.add_right_comm];simp only [S];rw [yp f a b (y+1),show y+1+a=y+(a+1) by omega];omega
def lF (y:Nat):Bool:=decide (y % 4=0)&&((!decide (y % 100=0))||decide (y % 400=0))
def cI (y:Nat):Nat:=if lF y then 366 else 365
theorem ux (y:Nat):365≤cI y∧cI y≤366:=by unfold cI;split<;>omega
theorem GS (y:Nat):cI (y+400)=cI y:=by
 unfold cI lF
 rw [show (y+400) % 4=y % 4 by omega,show (y+400) % 100=y % 100 by omega,show (y+400) % 400=y % 400 by omega]
theorem Ki:∀(k y:Nat),S cI (y+400) k=S cI y k
 |0,y=>rfl
 |k+1,y=>by simp only [S];rw [GS,show y+400+1=y+1+400 by omega,Ki k (y+1)]
theorem PD:∀(c k y:Nat),S cI (y+400*c) k=S cI y k
 |0,k,y=>rfl
 |c+1,k,y=>by rw [show y+400*(c+1)=(y+400*c)+400 by omega,Ki,PD c k y]
theorem Kj:∀c:Nat,S cI 1970 (400*c)=146097*c
 |0=>rfl
 |c+1=>by
  rw [show 400*(c+1)=400*c+400 by omega,yp,Kj c,PD]
  have:S cI 1970 400=146097:=by kernel_rfl
  omega
theorem MG {f:Nat→Nat} {y:Nat} {a b:Nat} (h:a≤b):S f y a≤S f y b:=by
 rw [show b=a+(b - a) by omega,yp];omega
theorem Kk {d k a:Nat} (h:d=S cI 1970 k+a) (hd:d≤2932896):k≤8029:=by
 rcases Nat.lt_or_ge k 8030 with hk|hk
 · omega
 · have h1:=MG (f:=cI) (y:=1970) hk
   have h2:S cI 1970 8030=2932897:=by
    rw [show 8030=400*20+30 by rfl,yp,Kj,PD]
    have:S cI 1970 30=10957:=by kernel_rfl
    omega
   omega
theorem tm (m n:Nat):Int.tmod (m:Int) (n:Int)=((m % n:Nat):Int):=rfl
theorem td (m n:Nat):Int.tdiv (m:Int) (n:Int)=((m / n:Nat):Int):=rfl
theorem D2 (y:Nat):gh (y:Int)=some (lF y):=by
 unfold gh lF
 rw [show Int.tmod (y:Int) 4=((y % 4:Nat):Int) from rfl,show Int.tmod (y:Int) 100=((y % 100:Nat):Int) from rfl,show Int.tmod (y:Int) 400=((y % 400:Nat):Int) from rfl]
 have:∀n:Nat,decide ((n:Int)=0)=decide (n=0):=fun n=>by rw [decide_eq_decide];omega
 simp only [this]
theorem years {ρ:Type} {body:Int×Int→Option (St ρ (Int×Int) (Int×Int))}
 (hb:∀d y:Nat,d≤3000000→y≤4000000→body ((d:Int),(y:Int))=if d<cI y then some (.eI ((d:Int),(y:Int))) else some (.cQ (((d - cI y:Nat):Int),((y+1:Nat):Int)))):
 ∀(F d y:Nat),d<F→d≤3000000→y+d≤4000000→∃d' k:Nat,iter body F ((d:Int),(y:Int))=some (.inr ((d':Int),((y+k:Nat):Int)))∧d=S cI y k+d'∧d'<cI (y+k):=by
 intro F
 induction F with
 |zero=>intro d y h;omega
 |succ F ih=>
  intro d y hF hd hy
  have h:=hb d y hd (by omega)
  have hl:=ux y
  by_cases hc:d<cI y
  · rw [if_pos hc] at h
    exact ⟨d,0,dO h,by simp [S],hc⟩
  · rw [if_neg hc] at h
    obtain ⟨d',k,h1,h2,h3⟩:=ih (d - cI y) (y+1) (by omega) (by omega) (by omega)
    refine ⟨d',k+1, ?_, ?_, ?_⟩
    · rw [cD h,h1,show y+1+k=y+(k+1) by omega]
    · simp only [S];omega
    · rw [show y+(k+1)=y+1+k by omega];exact h3
theorem Kl (d y:Nat) (hd:d≤3000000) (hy:y≤4000000):eS ((d:Int),(y:Int))=if d<cI y then some (.eI ((d:Int),(y:Int))) else some (.cQ (((d - cI y:Nat):Int),((y+1:Nat):Int))):=by
 have hp:eR (lF y)=some ((cI y:Nat):Int):=by unfold eR cI;cases lF y<;>simp [wr]
 have hl:=ux y
 simp only [eS]
 rw [D2]
 simp only [Option.bind_some]
 rw [hp]
 simp only [Option.bind_some]
 by_cases hc:d<cI y
 · rw [if_pos (by simp;omega),if_pos hc]
 · rw [if_neg (by simp;omega),if_neg hc,wi (by omega),wr (by omega) (by omega),Int.natCast_sub (by omega)]
def vO:List Nat:=[31,28,31,30,31,30,31,31,30,31,30,31]
def fM (y m:Nat):Nat:=if m=1∧lF y=true then 29 else (vO[m]?).getD 0
theorem PF (y:Nat):S (fM y) 0 12=cI y:=by
 cases h:lF y<;>simp [S,fM,cI,h,vO]
theorem uy (y m:Nat):fM y m≤31:=by
 unfold fM
 split
 · omega
 · rcases Nat.lt_or_ge m 12 with h|h
   · have:=List.all_eq_true.1 (show (List.range 12).all (fun m=>decide ((vO[m]?).getD 0≤31))=true by kernel_rfl) m (by simpa using h)
     simpa using this
   · rw [List.getElem?_eq_none (by simp [vO];omega)];simp
theorem months {ρ:Type} {y:Nat} {body:Int×Int→Option (St ρ (Int×Int) (Int×Int))}
 (hb:∀d m:Nat,d≤400→m<12→body ((d:Int),(m:Int))=if fM y m≤d then some (.cQ (((d - fM y m:Nat):Int),((m+1:Nat):Int))) else some (.eI ((d:Int),(m:Int)))):
 ∀(j F d m:Nat),m+j=12→j<F→d≤400→d<S (fM y) m j→∃d' k:Nat,iter body F ((d:Int),(m:Int))=some (.inr ((d':Int),((m+k:Nat):Int)))∧d=S (fM y) m k+d'∧d'<fM y (m+k)∧m+k<12:=by
 intro j
 induction j with
 |zero=>intro F d m _ _ _ h;simp [S] at h
 |succ j ih=>
  intro F d m hm hF hd h
  obtain ⟨F,rfl⟩:=gq hF
  have MH:=hb d m hd (by omega)
  simp only [S] at h
  by_cases hc:fM y m≤d
  · rw [if_pos hc] at MH
    obtain ⟨d',k,h1,h2,h3,h4⟩:=ih F (d - fM y m) (m+1) (by omega) (by omega) (by omega) (by omega)
    refine ⟨d',k+1, ?_, ?_, ?_,by omega⟩
    · rw [cD MH,h1,show m+1+k=m+(k+1) by omega]
    · simp only [S];omega
    · rw [show m+(k+1)=m+1+k by omega];exact h3
  · rw [if_neg hc] at MH
    exact ⟨d,0,dO MH,by simp [S],by simpa using hc,by omega⟩
theorem MI {y m:Nat} (h:m<12):gi (y:Int) (m:Int)=some ((fM y m:Nat):Int):=by
 unfold gi gp fM
 rw [D2]
 simp only [Option.bind_some]
 have ht:∀m:Nat,m<12→(ox 12 (m:Int)).bind (fun j=>(dh[j]?).bind fun x=>some x)=some (((vO[m]?).getD 0:Nat):Int):=by
  intro m hm
  have:=List.all_eq_true.1 (show (List.range 12).all (fun m=>decide ((ox 12 (m:Int)).bind (fun j=>(dh[j]?).bind fun x=>some x)=some (((vO[m]?).getD 0:Nat):Int)))=true by kernel_rfl) m (by simpa using hm)
  simpa using this
 by_cases h1:m=1
 · subst h1
   cases hl:lF y
   · have:=ht 1 (by omega)
     rw [if_neg (show ¬(1=1∧false=true) by simp)]
     exact this
   · rfl
 · rw [if_neg (by simp;omega),if_neg (fun h=>h1 h.1)]
   simp only [Option.bind_some,Bool.false_eq_true,if_false]
   exact ht m h
theorem GU (y d m:Nat) (hd:d≤400) (hm:m<12):eT (y:Int) ((d:Int),(m:Int))=if fM y m≤d then some (.cQ (((d - fM y m:Nat):Int),((m+1:Nat):Int))) else some (.eI ((d:Int),(m:Int))):=by
 have hl:=uy y m
 simp only [eT]
 rw [MI hm]
 simp only [Option.bind_some]
 by_cases hc:fM y m≤d
 · rw [if_pos (by simp;omega),if_pos hc,wi (by omega),wr (by omega) (by omega),Int.natCast_sub (by omega)]
 · rw [if_neg (by simp;omega),if_neg hc]
end Go.Proofs.ct
end
section
set_option maxRecDepth 100000
namespace Go.Proofs.ct
open Go Go.Am Go.Proofs
def dg (n:Nat):UInt8:=UInt8.ofNat (48+n)
def tw (n:Nat):List UInt8:=[dg (n / 10),dg (n % 10)]
theorem S4 {a b:Nat} (ha:a<10) (hb:b<10) (h:dg a=dg b):a=b:=by
 have:=List.all_eq_true.1 (show (List.range 10).all (fun a=>(List.range 10).all fun b=> !(dg a==dg b)||a==b)=true by kernel_rfl) a (by simpa using ha)
 have:=List.all_eq_true.1 this b (by simpa using hb)
 simpa [h] using this
theorem rj {n:Nat} (h:n<100):dN (n:Int)=some (tw n):=by
 have:=List.all_eq_true.1 (show (List.range 100).all (fun n=>decide (dN (n:Int)=some (tw n)))=true by kernel_rfl) n (by simpa using h)
 simpa using this
theorem MJ {y:Nat} (h:y≤9999):iT (y:Int)=some (tw (y / 100)++tw (y % 100)):=by
 unfold iT
 rw [show IntKind.wrap .i64 (Int.tdiv (y:Int) 100)=((y / 100:Nat):Int) by rw [show Int.tdiv (y:Int) 100=((y / 100:Nat):Int) from rfl,wr (by omega) (by omega)],
  show Int.tmod (y:Int) 100=((y % 100:Nat):Int) from rfl,rj (by omega),rj (by omega)]
 simp only [Option.bind_some]
 rw [bM (by simp [tw])]
 rfl
def Nf:List UInt8:=[84,104,117,70,114,105,83,97,116,83,117,110,77,111,110,84,117,101,87,101,100]
def uz:List UInt8:=(74::97::110::70::101::98::77::97::114::65::112::114::77::97::121::74::117::110::74::117::108::65::117::103::83::101::112::79::99::116::78::111::118::68::101::99::[])
def wk (w:Nat):List UInt8:=(Nf.take (3*w+3)).drop (3*w)
def mn (m:Nat):List UInt8:=(uz.take (3*m+3)).drop (3*m)
theorem D3 {w:Nat} (h:w<7):(wk w).length=3:=by simp [wk,Nf];omega
theorem D4 {m:Nat} (h:m<12):(mn m).length=3:=by simp [mn,uz];omega
theorem S5 {a b:Nat} (ha:a<12) (hb:b<12) (h:mn a=mn b):a=b:=by
 have:=List.all_eq_true.1 (show (List.range 12).all (fun a=>(List.range 12).all fun b=> !(mn a==mn b)||a==b)=true by kernel_rfl) a (by simpa using ha)
 have:=List.all_eq_true.1 this b (by simpa using hb)
 simpa [h] using this
theorem Se {w:Nat} (h:w<7):sub ([84,104,117,70,114,105,83,97,116,83,117,110,77,111,110,84,117,101,87,101,100]:List UInt8) (IntKind.wrap .i64 (3*(w:Int))) (IntKind.wrap .i64 (IntKind.wrap .i64 (3*(w:Int))+3))=some (wk w):=by
 rw [show IntKind.wrap .i64 (3*(w:Int))=((3*w:Nat):Int) by rw [wr (by omega) (by omega)];omega,show IntKind.wrap .i64 (((3*w:Nat):Int)+3)=((3*w+3:Nat):Int) by rw [wr (by omega) (by omega)];omega,
  sG (by omega) (by simp;omega)]
 rfl
theorem Sf {m:Nat} (h:m<12):sub uz (IntKind.wrap .i64 (3*(m:Int))) (IntKind.wrap .i64 (IntKind.wrap .i64 (3*(m:Int))+3))=some (mn m):=by
 rw [show IntKind.wrap .i64 (3*(m:Int))=((3*m:Nat):Int) by rw [wr (by omega) (by omega)];omega,show IntKind.wrap .i64 (((3*m:Nat):Int)+3)=((3*m+3:Nat):Int) by rw [wr (by omega) (by omega)];omega,
  sG (by omega) (by simp [uz];omega)]
 rfl
def vP (w a m y e:Nat):List UInt8:=
 wk w++(44::32::dg (a / 10)::dg (a % 10)::32::(mn m++(32::dg (y / 100 / 10)::dg (y / 100 % 10)::dg (y % 100 / 10)::dg (y % 100 % 10)::32::dg (e / 3600 / 10)::dg (e / 3600 % 10)::58::dg (e / 60 % 60 / 10)::dg (e / 60 % 60 % 10)::58::dg (e % 60 / 10)::dg (e % 60 % 10)::[32,43,48,48,48,48])))
def Dd (d y m a:Nat):Prop:=∃k b,y=1970+k∧d=S cI 1970 k+b∧b<cI y∧b=S (fM y) 0 m+a∧a<fM y m∧m<12
theorem Sg {d y m a y2 m2 a2:Nat} (h:Dd d y m a) (h2:Dd d y2 m2 a2):y=y2∧m=m2∧a=a2:=by
 obtain ⟨k,b,e1,e2,e3,e4,e5, -⟩:=h
 obtain ⟨k2,b2,f1,f2,f3,f4,f5, -⟩:=h2
 obtain ⟨rfl,rfl⟩:=Dc (e2.symm.trans f2) (e1▸e3) (f1▸f3)
 subst f1
 subst e1
 obtain ⟨h1,h2⟩:=Dc (f:=fM (1970+k)) (e4.symm.trans f4) (by simpa using e5) (by simpa using f5)
 exact ⟨rfl,h1,h2⟩
theorem P1 {d d2 y m a:Nat} (h:Dd d y m a) (h2:Dd d2 y m a):d=d2:=by
 obtain ⟨k,b,e1,e2,e3,e4,e5, -⟩:=h
 obtain ⟨k2,b2,f1,f2,f3,f4,f5, -⟩:=h2
 have:k=k2:=by omega
 subst this
 omega
theorem D5 {d y m a:Nat} (h:Dd d y m a) (hd:d≤2932896):y≤9999∧m<12∧a<31:=by
 obtain ⟨k,b,e1,e2,e3,e4,e5,e6⟩:=h
 have:=Kk e2 hd
 have:=uy y m
 omega
theorem MK {d F:Nat} (hd:d≤2932896) (hF:3000000<F):∃y m a:Nat,Dd d y m a∧iS F (d:Int)=some ((y:Int),(m:Int),((a+1:Nat):Int)):=by
 obtain ⟨b,k,h1,h2,h3⟩:=years (fun d y hd hy=>Kl d y hd hy) F d 1970 (by omega) (by omega) (by omega)
 have hl:=ux (1970+k)
 obtain ⟨a,m,g1,g2,g3,g4⟩:=months (y:=1970+k) (fun d m hd hm=>GU (1970+k) d m hd hm) 12 F b 0 rfl (by omega) (by omega) (by rw [PF];exact h3)
 rw [Nat.zero_add] at g1 g3 g4
 have:=uy (1970+k) m
 refine ⟨1970+k,m,a,⟨k,b,rfl,h2,h3,g2,g3,g4⟩, ?_⟩
 unfold iS
 rw [show ((1970:Nat):Int)=1970 from rfl] at h1
 rw [h1]
 simp only [Option.bind_some]
 rw [show ((0:Nat):Int)=0 from rfl] at g1
 rw [g1]
 simp only [Option.bind_some]
 rw [wi (by omega)]
theorem bs {α β:Type} (a:α) (f:α→Option β):(some a).bind f=f a:=(Option.bind_some a f).trans (Eq.trans rfl rfl)
theorem ML {t F:Nat} (ht:t≤253402300799) (hF:3000000<F):∃y m a:Nat,Dd (t / 86400) y m a∧cH F (t:Int)=some (vP (t / 86400 % 7) (a+1) m y (t % 86400)):=by
 have hd:t / 86400≤2932896:=by omega
 obtain ⟨y,m,a,hc,h⟩:=MK (F:=F) hd hF
 obtain ⟨hy,hm,ha⟩:=D5 hc hd
 refine ⟨y,m,a,hc, ?_⟩
 unfold cH
 have e0:min (max (t:Int) 0) 253402300799=(t:Int):=by omega
 have e1:IntKind.wrap .i64 (Int.tdiv (t:Int) 86400)=((t / 86400:Nat):Int):=by rw [show Int.tdiv (t:Int) 86400=((t / 86400:Nat):Int) from rfl,wr (by omega) (by omega)]
 have e2:Int.tmod (t:Int) 86400=((t % 86400:Nat):Int):=rfl
 have e3:Int.tmod ((t / 86400:Nat):Int) 7=((t / 86400 % 7:Nat):Int):=rfl
 have e4:IntKind.wrap .i64 (Int.tdiv ((t % 86400:Nat):Int) 3600)=((t % 86400 / 3600:Nat):Int):=by rw [show Int.tdiv ((t % 86400:Nat):Int) 3600=((t % 86400 / 3600:Nat):Int) from rfl,wr (by omega) (by omega)]
 have e5:IntKind.wrap .i64 (Int.tdiv ((t % 86400:Nat):Int) 60)=((t % 86400 / 60:Nat):Int):=by rw [show Int.tdiv ((t % 86400:Nat):Int) 60=((t % 86400 / 60:Nat):Int) from rfl,wr (by omega) (by omega)]
 have e6:Int.tmod ((t % 86400 / 60:Nat):Int) 60=((t % 86400 / 60 % 60:Nat):Int):=rfl
 have e7:Int.tmod ((t % 86400:Nat):Int) 60=((t % 86400 % 60:Nat):Int):=rfl
 rw [e0,e1,e2,e3,e4,e5,e6,e7,h]
 clear e0 e1 e2 e3 e4 e5 e6 e7 h hc
 simp only [bs]
 have Sh:t / 86400 % 7<7:=Nat.mod_lt _ (by decide)
 have he:t % 86400<86400:=Nat.mod_lt _ (by decide)
 generalize t / 86400 % 7=w at Sh ⊢
 generalize t % 86400=e at he ⊢
 clear hd ht hF
 have hw:=D3 Sh
 have hmn:=D4 hm
 rw [Se (by omega)]
 generalize hW:wk w=W at hw ⊢
 simp only [bs]
 rw [bM (by simp;omega)]
 simp only [bs]
 have Si:=Sf hm
 unfold uz at Si
 rw [Si]
 generalize hM:mn m=M at hmn ⊢
 simp only [bs]
 rw [rj (by omega)]
 simp only [bs]
 rw [bM (by simp [tw];omega)]
 simp only [bs]
 rw [bM (by simp [tw];omega)]
 simp only [bs]
 rw [bM (by simp [tw];omega)]
 simp only [bs]
 rw [bM (by simp [tw];omega)]
 simp only [bs]
 rw [MJ hy]
 simp only [bs]
 rw [bM (by simp [tw];omega)]
 simp only [bs]
 rw [bM (by simp [tw];omega)]
 simp only [bs]
 rw [rj (by omega)]
 simp only [bs]
 rw [bM (by simp [tw];omega)]
 simp only [bs]
 rw [bM (by simp [tw];omega)]
 simp only [bs]
 rw [rj (by omega)]
 simp only [bs]
 rw [bM (by simp [tw];omega)]
 simp only [bs]
 rw [bM (by simp [tw];omega)]
 simp only [bs]
 rw [rj (by omega)]
 simp only [bs]
 rw [bM (by simp [tw];omega)]
 simp only [bs]
 rw [bM (by simp [tw];omega)]
 subst hW hM
 simp only [bs,vP,tw,List.append_assoc,List.cons_append,List.nil_append]
theorem GV {w a m y e:Nat} (hw:w<7) (hm:m<12):(vP w a m y e).length=31:=by
 have:=D3 hw
 have:=D4 hm
 simp only [vP,List.length_append,List.length_cons,List.length_nil]
 omega
end Go.Proofs.ct
end
section
set_option maxRecDepth 100000
namespace Go.Proofs.ct
open Go Go.Am Go.Proofs
open Nat renaming reduceEqDiff→nA,reduceLT→nB,reduceLeDiff→nC,reduceAdd→nD,reduceSub→nE,reduceMul→nF,reduceBEq→nG
set_option maxHeartbeats 2000000
abbrev gC:aq:=(.rg [(ax 21 0),(ai 22 (.len (.t 21))),(ai 23 (.bin .gtr (.t 22) (.c (.int .i64 2000)))),(ax 24 23),(aF 25 (.mv (.t 1)) 24 false),(aF 26 (.lens (.t 25)) 24 false),(aF 27 (.bin .gtr (.t 26) (.c (.int .i64 100))) 24 false),(ai 28 (.pick (.t 24) (.c (.bool true)) (.t 27))),(ax 29 28),(aF 30 (.mv (.t 2)) 29 false),(aF 31 (.lens (.t 30)) 29 false),(aF 32 (.bin .gtr (.t 31) (.c (.int .i64 50))) 29 false),(ai 33 (.pick (.t 29) (.c (.bool true)) (.t 32)))])
abbrev gD:aq:=(.rg [(ax 48 10),(ax 49 11),(ai 50 (.ixs (.t 48) (.t 49))),(ai 51 (.bin .eql (.t 50) (.c (b8 13)))),(ax 52 51),(aF 53 (.mv (.t 10)) 52 false),(aF 54 (.mv (.t 11)) 52 false),(aF 55 (.ixs (.t 53) (.t 54)) 52 false),(aF 56 (.bin .eql (.t 55) (.c (b8 10))) 52 false),(ai 57 (.pick (.t 52) (.c (.bool true)) (.t 56)))])
abbrev fU:aq:=(.seq (.seq (.rg [(ax 42 11),(ax 43 10),(ai 44 (.lens (.t 43))),(ai 45 (.bin .lss (.t 42) (.t 44)))]) (.cond (.t 45) .skip (.exit 2))) (.seq (.blk 3 (.seq (.sem (erase gD)) (.cond (.t 57) (.seq (.rg [(ai 8 (.bg (.c (.bool true))))]) .ret) .skip))) (.rg [(ax 46 11),(ai 47 (.bin .add (.t 46) (.c (.int .i64 1)))),(aQ 11 47)])))
abbrev fV:aq:=(.seq (.rg [(ai 39 (.bin .lss (.t 38) (.t 37)))]) (.seq (.cond (.t 39) .skip (.exit 0)) (.seq (.blk 1 (.seq (.rg [(ai 40 (.iD 1 (.t 36) (.t 38))),(ai 41 (.ld (.t 40) none)),(aQ 10 41)]) (.seq (.rg [(ai 11 (.bg (.c (.int .i64 0))))]) (.blk 2 (.loop (erase fU)))))) (.rg [(ai 58 (.bin .add (.t 38) (.c (.int .i64 1)))),(ax 38 58)]))))
abbrev gE:aq:=(.rg [(ax 64 0),(ai 65 (.len (.t 64))),(ai 66 (.bin .gtr (.t 65) (.c (.int .i64 0)))),(ax 67 66),(aF 68 (.mv (.t 0)) 67 true),(aF 69 (.iD 1 (.t 68) (.c (.int .i64 0))) 67 true),(aF 70 (.ld (.t 69) none) 67 true),(aF 71 (.bin .eql (.t 70) (.c (b8 32))) 67 true),(aF 72 (.mv (.t 71)) 67 true),(aF 73 (.mv (.t 0)) 72 false),(aF 74 (.iD 1 (.t 73) (.c (.int .i64 0))) 72 false),(aF 75 (.ld (.t 74) none) 72 false),(aF 76 (.bin .eql (.t 75) (.c (b8 9))) 72 false),(aF 77 (.pick (.t 72) (.c (.bool true)) (.t 76)) 67 true),(ai 78 (.pick (.t 67) (.t 77) (.c (.bool false))))])
abbrev gF:aq:=(.rg [(ax 99 16),(ai 100 (.len (.t 99))),(ax 101 12),(ai 102 (.len (.t 101))),(ai 103 (.bin .add (.t 102) (.c (.int .i64 1)))),(ai 104 (.bin .neq (.t 100) (.t 103))),(ax 105 104),(aF 106 (.mv (.t 16)) 105 false),(aF 107 (.iD 2 (.t 106) (.c (.int .i64 0))) 105 false),(aF 108 (.yy (.t 107) (some 2)) 105 false),(aF 109 (.yy (.t 14) (some 2)) 105 false),(aF 110 (.seq [.s, .s] true (.t 108) (.t 109)) 105 false),(ai 111 (.pick (.t 105) (.c (.bool true)) (.t 110))),(ax 112 111),(aF 113 (.mv (.t 13)) 112 false),(aF 114 (.vv (.t 113)) 112 false),(aF 115 (.mv (.t 17)) 112 false),(aF 116 (.vv (.t 115)) 112 false),(aF 117 (.bin .neq (.t 114) (.t 116)) 112 false),(ai 118 (.pick (.t 112) (.c (.bool true)) (.t 117))),(ax 119 118),(aF 120 (.mv (.t 16)) 119 false),(aF 122 (.mv (.t 12)) 119 false),(aF 121 (.call (.c (.fn 23 [])) [(.t 120)]) 119 false),(aF 123 (.call (.c (.fn 23 [])) [(.t 122)]) 119 false),(aF 124 (.bin .add (.t 123) (.c (.int .i64 1))) 119 false),(aF 125 (.bin .neq (.t 121) (.t 124)) 119 false),(ai 126 (.pick (.t 119) (.c (.bool true)) (.t 125)))])
abbrev fW:aq:=(.seq (.seq (.rg [(ax 127 18),(ax 128 12),(ai 129 (.len (.t 128))),(ai 130 (.bin .lss (.t 127) (.t 129)))]) (.cond (.t 130) .skip (.exit 4))) (.seq (.blk 5 (.seq (.rg [(ax 133 16),(ax 134 18),(ai 135 (.bin .add (.t 134) (.c (.int .i64 1)))),(ai 136 (.iD 2 (.t 133) (.t 135))),(ai 137 (.ld (.t 136) (some 2))),(ax 138 12),(ax 139 18),(ai 140 (.iD 2 (.t 138) (.t 139))),(ai 141 (.ld (.t 140) (some 2))),(ai 142 (.seq [.s, .s] true (.t 137) (.t 141)))]) (.cond (.t 142) (.seq (.rg [(ai 8 (.bg (.c (.bool false))))]) .ret) .skip))) (.rg [(ax 131 18),(ai 132 (.bin .add (.t 131) (.c (.int .i64 1)))),(aQ 18 132)])))
abbrev qe:aq:=(.seq (.rg [(ai 8 (.bg (.c (.bool false))))]) (.seq (.seq (.rg [(ai 19 (.call (.c (.fn 14 [])) [])),(ai 20 (.un .not (.t 19)))]) (.cond (.t 20) (.seq (.rg [(ai 8 (.bg (.c (.bool false))))]) .ret) .skip)) (.seq (.seq (.sem (erase gC)) (.cond (.t 33) (.seq (.rg [(ai 8 (.bg (.c (.bool true))))]) .ret) .skip)) (.seq (.seq (.rg [(ax 34 1),(ax 35 2),(ai 36 (.qg 1 [(.t 34),(.t 35)])),(ai 37 (.len (.t 36))),(ai 38 (.mv (.c (.int .i64 0))))]) (.blk 0 (.loop (erase fV)))) (.seq (.rg [(ax 60 0),(ai 61 (.call (.c (.fn 18 [])) [(.t 60)])),(ax 59 61),(ai 62 (.ext (.t 59) 0)),(ai 63 (.ext (.t 59) 1)),(aQ 12 62),(aQ 13 63)]) (.seq (.seq (.sem (erase gE)) (.cond (.t 78) (.seq (.rg [(ai 8 (.bg (.c (.bool true))))]) .ret) .skip)) (.seq (.rg [(ax 79 1),(ax 80 2),(ax 81 3),(ai 82 (.build [(.str []),(.str [])] [])),(ai 83 (.call (.c (.fn 53 [])) [(.t 79),(.c (.str [104,101,114,101,46,101,120,97,109,112,108,101])),(.t 80),(.t 81),(.t 82)])),(ai 14 (.alloc [(.str []),(.str [])])),(C3 (.st (.t 14) (.t 83) 2))]) (.seq (.rg [(ai 84 (.oh (.t 14) 0)),(ai 85 (.ld (.t 84) none)),(ai 86 (.bin .add (.t 85) (.c (.str [58])))),(ai 87 (.oh (.t 14) 1)),(ai 88 (.ld (.t 87) none)),(ai 89 (.bin .add (.t 86) (.t 88))),(ai 90 (.bin .add (.t 89) (.c (.str [13,10])))),(ai 91 (.fC .sb (.t 90))),(ax 92 0),(ai 93 (.app 1 1 (.t 91) (.t 92))),(aQ 15 93)]) (.seq (.rg [(ax 95 15),(ai 96 (.call (.c (.fn 18 [])) [(.t 95)])),(ax 94 96),(ai 97 (.ext (.t 94) 0)),(ai 98 (.ext (.t 94) 1)),(aQ 16 97),(aQ 17 98)]) (.seq (.seq (.sem (erase gF)) (.cond (.t 126) (.seq (.rg [(ai 8 (.bg (.c (.bool false))))]) .ret) .skip)) (.seq (.seq (.rg [(ai 18 (.bg (.c (.int .i64 0))))]) (.blk 4 (.loop (erase fW)))) (.seq (.rg [(ai 8 (.bg (.c (.bool true))))]) .ret))))))))))))
theorem qf:bB Tryd.prog 13 143 [(.tmp 8)] (erase qe):=⟨Tryd.f13,_,rfl,by decide,rfl,by kernel_rfl,rfl,rfl⟩
abbrev bU:List Nat:=[0,1,2,3,8,10,11,12,13,14,15,16,17,18,20,33,36,37,38,39,45,57,78,126,130,142]
def cJ (x7:List UInt8) (i8:Int):Option (Bool):=
 (idx x7 i8).bind fun x9=>
 (if (decide (x9=13)) then
  some true
 else
  some (decide (x9=10)))
def bE (x7:List UInt8):Int→Option (St Bool Unit Int)
 |i8=>
  (if (decide (i8<(x7.length:Int))) then
   (cJ x7 i8).bind fun t11=>
   (if t11 then
    some (.ret true)
   else
    some (.cQ (IntKind.wrap .i64 (i8+1))))
  else
   some (.eI ()))
def bF (F:Nat) (bu:List UInt8) (cC:List UInt8):Int→Option (St Bool Unit Int)
 |t6=>
  (if (decide (t6<((2:Nat):Int))) then
   (idx ([bu,cC]:List (List UInt8)) t6).bind fun x7=>
   ((iter (bE x7) F 0).bind fun J2=>
   match J2 with
   | .inr ()=>
     some (.cQ (IntKind.wrap .i64 (t6+1)))
   | .inl tX=>
     some (.ret tX))
  else
   some (.eI ()))
def cK (b1:List UInt8):Option (Bool):=
 (if (decide (0<(b1.length:Int))) then
  (idx b1 0).bind fun xZ=>
  (if (decide (xZ=32)) then
   some true
  else
   some (decide (xZ=9)))
 else
  some false)
def dH (F:Nat) (nv:List aB) (r16:List aB) (rq:aB) (sx:List UInt8) (De:List UInt8):Option (Bool):=
 (if (!decide ((nv.length:Int)=(IntKind.wrap .i64 ((r16.length:Int)+1)))) then
  some true
 else
  (idx nv 0).bind fun PG=>
  (if (!(decide (PG.name=rq.name)&&decide (PG.value=rq.value))) then
   some true
  else
   (if (!decide (sx=De)) then
    some true
   else
    (jl F nv).bind fun Sj=>
    (jl F r16).bind fun Sk=>some (!decide (Sj=(IntKind.wrap .i64 (Sk+1)))))))
def bX (r16:List aB) (nv:List aB):Int→Option (St Bool Unit Int)
 |i33=>
  (if (decide (i33<(r16.length:Int))) then
   (idx nv (IntKind.wrap .i64 (i33+1))).bind fun PI=>
   (idx r16 i33).bind fun PJ=>
   (if (!(decide (PI.name=PJ.name)&&decide (PI.value=PJ.value))) then
    some (.ret false)
   else
    some (.cQ (IntKind.wrap .i64 (i33+1))))
  else
   some (.eI ()))
def eV (F:Nat) (b1:List UInt8) (bu:List UInt8) (cC:List UInt8) (t4:Int):Option (Bool):=
 (ic F).bind fun r5=>
 (if (!r5) then
  some false
 else
  (if (((decide (2000<(b1.length:Int)))||(decide (100<(bu.length:Int))))||(decide (50<(cC.length:Int)))) then
   some true
  else
   ((iter (bF F bu cC) F 0).bind fun Sl=>
   match Sl with
   | .inr ()=>
     (ei F b1).bind fun (r16,sx)=>
     (cK b1).bind fun t20=>
     (if t20 then
      some true
     else
      (eu F bu ([104,101,114,101,46,101,120,97,109,112,108,101]:List UInt8) cC t4 (bQ.mk ([]:List UInt8) ([]:List UInt8))).bind fun rq=>
      (cat rq.name ([58]:List UInt8)).bind fun Sm=>
      (cat Sm rq.value).bind fun AA=>
      (cat AA ([13,10]:List UInt8)).bind fun vb=>
      (dn 1 vb b1).bind fun GP=>
      (ei F GP).bind fun (nv,De)=>
      (dH F nv r16 rq sx De).bind fun t32=>
      (if t32 then
       some false
      else
       ((iter (bX r16 nv) F 0).bind fun Sn=>
       match Sn with
       | .inr ()=>
         some true
       | .inl PK=>
         some PK)))
   | .inl C5=>
     some C5)))
theorem mb {b1:List UInt8} {bu:List UInt8} {cC:List UInt8} {t4:Int} {H0 H:AH} (hfr:Fr H0 H0.length [] H) {K:Exit→Env→AH→Prop}
 (kn:∀H':AH,Fr H0 H0.length [] H'→K .normal [(0,(.sl .n 1 (ml b8 b1))),(1,(.str bu)),(2,(.str cC)),(3,(.int .i64 t4)),(33,(.bool (((decide (2000<(b1.length:Int)))||(decide (100<(bu.length:Int))))||(decide (50<(cC.length:Int))))))] H'):
 AX Tryd.prog bU 143 H0.length (erase gC) K [(0,(.sl .n 1 (ml b8 b1))),(1,(.str bu)),(2,(.str cC)),(3,(.int .i64 t4))] H:=by
 refine e9 fun K' hK=> ?_
 have hle:=hfr.le
 refine bk ?_
 refine tJ (fun bt=> ?_) fun bt=> ?_
 · refine bN bt ?_
   exact hK _ _ _ _ _ (iN bt) ay (kn _ hfr)
 · refine bN bt ?_
   refine tJ (fun bw=> ?_) fun bw=> ?_
   · refine bN bw ?_
     exact hK _ _ _ _ _ (iN (aX bt bw)) ay (kn _ hfr)
   · refine bN bw ?_
     exact hK _ _ _ _ _ (iN (aX bt bw)) ay (kn _ hfr)
theorem mc {x7:List UInt8} {i8:Int} {b1:List UInt8} {bu:List UInt8} {cC:List UInt8} {t4:Int} {t6:Int} {H0 H:AH} (hfr:Fr H0 H0.length [] H) {K:Exit→Env→AH→Prop} {t10:Bool}
 (h:cJ x7 i8=some t10)
 (kn:∀H':AH,Fr H0 H0.length [] H'→K .normal [(0,(.sl .n 1 (ml b8 b1))),(1,(.str bu)),(2,(.str cC)),(3,(.int .i64 t4)),(10,(.str x7)),(11,(.int .i64 i8)),(36,(.sl .ex 1 [(.str bu),(.str cC)])),(37,(.int .i64 ((2:Nat):Int))),(38,(.int .i64 t6)),(57,(.bool t10))] H'):
 AX Tryd.prog bU 143 H0.length (erase gD) K [(0,(.sl .n 1 (ml b8 b1))),(1,(.str bu)),(2,(.str cC)),(3,(.int .i64 t4)),(10,(.str x7)),(11,(.int .i64 i8)),(36,(.sl .ex 1 [(.str bu),(.str cC)])),(37,(.int .i64 ((2:Nat):Int))),(38,(.int .i64 t6))] H:=by
 refine e9 fun K' hK=> ?_
 have hle:=hfr.le
 rw [cJ.eq_1] at h
 obtain ⟨x9,fR,h⟩:=au h
 refine bN fR ?_
 refine cX h (fun gR h=> ?_) fun gR h=> ?_
 · refine bN gR ?_
   obtain rfl:=aD h
   exact hK _ _ _ _ _ aU ay (kn _ hfr)
 · refine bN (aX gR fR) ?_
   obtain rfl:=aD h
   exact hK _ _ _ _ _ aU ay (kn _ hfr)
theorem me {F:Nat} {i8:Int} {x7:List UInt8} {b1:List UInt8} {bu:List UInt8} {cC:List UInt8} {t4:Int} {t6:Int} {H0 H:AH} (hfr:Fr H0 H0.length [] H) {K:Exit→Env→AH→Prop} {o:(Bool)⊕(Unit)}
 (h:iter (bE x7) F i8=some o)
 (J3:∀o':Unit,o= .inr o'→∀H':AH,Fr H0 H0.length [] H'→K (.exit 2) [(0,(.sl .n 1 (ml b8 b1))),(1,(.str bu)),(2,(.str cC)),(3,(.int .i64 t4)),(36,(.sl .ex 1 [(.str bu),(.str cC)])),(37,(.int .i64 ((2:Nat):Int))),(38,(.int .i64 t6))] H')
 (kr:∀o':Bool,o= .inl o'→∀H':AH,Fr H0 H0.length [] H'→K .ret [(8,(.bool o'))] H'):
 AX Tryd.prog bU 143 H0.length (.loop (erase fU)) K [(0,(.sl .n 1 (ml b8 b1))),(1,(.str bu)),(2,(.str cC)),(3,(.int .i64 t4)),(10,(.str x7)),(11,(.int .i64 i8)),(36,(.sl .ex 1 [(.str bu),(.str cC)])),(37,(.int .i64 ((2:Nat):Int))),(38,(.int .i64 t6))] H:=by
 refine k8 (fun s e H1=>match s with|i8=>e=[(0,(.sl .n 1 (ml b8 b1))),(1,(.str bu)),(2,(.str cC)),(3,(.int .i64 t4)),(10,(.str x7)),(11,(.int .i64 i8)),(36,(.sl .ex 1 [(.str bu),(.str cC)])),(37,(.int .i64 ((2:Nat):Int))),(38,(.int .i64 t6))]∧Fr H0 H0.length [] H1) h ⟨rfl,hfr⟩ ?_
 rintro K' i8 st e H ⟨rfl,hfr⟩ h hN hB hR hX
 have hle:=hfr.le
 rw [bE.eq_1] at h
 refine bk ?_
 refine cB h (fun lg h=> ?_) fun lg h=> ?_
 · refine bk ?_
   obtain ⟨t11,fk,h⟩:=au h
   refine cy ay (mc (b1:=b1) (bu:=bu) (cC:=cC) (t4:=t4) (t6:=t6) hfr fk ?_)
   intro H hfr
   have hle:=hfr.le
   refine bk ?_
   refine cB h (fun mV h=> ?_) fun mV h=> ?_
   · refine bk ?_
     obtain rfl:=aD h
     exact hX _ _ _ _ _ eN aU ay (kr _ (hR _ rfl) _ hfr)
   · refine bk ?_
     obtain rfl:=aD h
     exact hN _ rfl _ _ _ _ aU ay ⟨rfl,hfr⟩
 · refine bk ?_
   obtain rfl:=aD h
   exact hX _ _ _ _ _ eN aU ay (J3 _ (hB _ rfl) _ hfr)
theorem mg {F:Nat} {t6:Int} {bu:List UInt8} {cC:List UInt8} {b1:List UInt8} {t4:Int} {H0 H:AH} (hfr:Fr H0 H0.length [] H) {K:Exit→Env→AH→Prop} {o:(Bool)⊕(Unit)}
 (h:iter (bF F bu cC) F t6=some o)
 (fJ:∀o':Unit,o= .inr o'→∀H':AH,Fr H0 H0.length [] H'→K (.exit 0) [(0,(.sl .n 1 (ml b8 b1))),(1,(.str bu)),(2,(.str cC)),(3,(.int .i64 t4))] H')
 (kr:∀o':Bool,o= .inl o'→∀H':AH,Fr H0 H0.length [] H'→K .ret [(8,(.bool o'))] H'):
 AX Tryd.prog bU 143 H0.length (.loop (erase fV)) K [(0,(.sl .n 1 (ml b8 b1))),(1,(.str bu)),(2,(.str cC)),(3,(.int .i64 t4)),(36,(.sl .ex 1 [(.str bu),(.str cC)])),(37,(.int .i64 ((2:Nat):Int))),(38,(.int .i64 t6))] H:=by
 refine k8 (fun s e H1=>match s with|t6=>e=[(0,(.sl .n 1 (ml b8 b1))),(1,(.str bu)),(2,(.str cC)),(3,(.int .i64 t4)),(36,(.sl .ex 1 [(.str bu),(.str cC)])),(37,(.int .i64 ((2:Nat):Int))),(38,(.int .i64 t6))]∧Fr H0 H0.length [] H1) h ⟨rfl,hfr⟩ ?_
 rintro K' t6 st e H ⟨rfl,hfr⟩ h hN hB hR hX
 have hle:=hfr.le
 rw [bF.eq_1] at h
 refine bk ?_
 refine cB h (fun cM h=> ?_) fun cM h=> ?_
 · obtain ⟨x7,dJ,h⟩:=au h
   have ec:idx [(.str bu),(.str cC)] t6=some (AV.str x7):=Po (f:=AV.str) dJ
   refine bN ec ?_
   obtain ⟨J2,pL,h⟩:=au h
   refine cy ay (me (b1:=b1) (bu:=bu) (cC:=cC) (t4:=t4) (t6:=t6) hfr pL ?_ ?_)
   · rintro ⟨⟩ rfl H hfr
     try dsimp only at h
     have hle:=hfr.le
     refine bk ?_
     obtain rfl:=aD h
     exact hN _ rfl _ _ _ _ aU ay ⟨rfl,hfr⟩
   · rintro tX rfl H hfr
     try dsimp only at h
     have hle:=hfr.le
     refine bk ?_
     obtain rfl:=aD h
     exact hX _ _ _ _ _ eN aU ay (kr _ (hR _ rfl) _ hfr)
 · refine bk ?_
   obtain rfl:=aD h
   exact hX _ _ _ _ _ eN aU ay (fJ _ (hB _ rfl) _ hfr)
theorem mh {b1:List UInt8} {bu:List UInt8} {cC:List UInt8} {t4:Int} {r16:List aB} {sx:List UInt8} {H0 H:AH} (hfr:Fr H0 H0.length [] H) {K:Exit→Env→AH→Prop} {t19:Bool}
 (h:cK b1=some t19)
 (kn:∀H':AH,Fr H0 H0.length [] H'→K .normal [(0,(.sl .n 1 (ml b8 b1))),(1,(.str bu)),(2,(.str cC)),(3,(.int .i64 t4)),(12,(.sl .n 2 (ml aE r16))),(13,(.sl .n 1 (ml b8 sx))),(78,(.bool t19))] H'):
 AX Tryd.prog bU 143 H0.length (erase gE) K [(0,(.sl .n 1 (ml b8 b1))),(1,(.str bu)),(2,(.str cC)),(3,(.int .i64 t4)),(12,(.sl .n 2 (ml aE r16))),(13,(.sl .n 1 (ml b8 sx)))] H:=by
 refine e9 fun K' hK=> ?_
 have hle:=hfr.le
 rw [cK.eq_1] at h
 refine bk ?_
 refine cX h (fun pM h=> ?_) fun pM h=> ?_
 · obtain ⟨xZ,rI,h⟩:=au h
   refine bN (aX pM rI) ?_
   refine cX h (fun pN h=> ?_) fun pN h=> ?_
   · refine bN pN ?_
     obtain rfl:=aD h
     exact hK _ _ _ _ _ aU ay (kn _ hfr)
   · refine bN (aX pN rI) ?_
     obtain rfl:=aD h
     exact hK _ _ _ _ _ aU ay (kn _ hfr)
 · refine bN pM ?_
   obtain rfl:=aD h
   exact hK _ _ _ _ _ aU ay (kn _ hfr)
theorem mj {F:Nat} {nv:List aB} {r16:List aB} {rq:aB} {sx:List UInt8} {De:List UInt8} {H0 H:AH} (hfr:Fr H0 H0.length [] H) {K:Exit→Env→AH→Prop} {t31:Bool}
 (h:dH F nv r16 rq sx De=some t31)
 (kn:∀H':AH,Fr H0 H0.length [] H'→K .normal [(12,(.sl .n 2 (ml aE r16))),(16,(.sl .n 2 (ml aE nv))),(126,(.bool t31))] H'):
 AX Tryd.prog bU 143 H0.length (erase gF) K [(12,(.sl .n 2 (ml aE r16))),(13,(.sl .n 1 (ml b8 sx))),(14,(.ep (.agg [(.str rq.name),(.str rq.value)]) 0)),(16,(.sl .n 2 (ml aE nv))),(17,(.sl .n 1 (ml b8 De)))] H:=by
 refine e9 fun K' hK=> ?_
 have hle:=hfr.le
 rw [dH.eq_1] at h
 refine bk ?_
 refine cX h (fun Km h=> ?_) fun Km h=> ?_
 · refine bN Km ?_
   obtain rfl:=aD h
   exact hK _ _ _ _ _ aU ay (kn _ hfr)
 · obtain ⟨PG,So,h⟩:=au h
   refine bN (aX Km So) ?_
   refine cX h (fun Kn h=> ?_) fun Kn h=> ?_
   · refine bN Kn ?_
     obtain rfl:=aD h
     exact hK _ _ _ _ _ aU ay (kn _ hfr)
   · refine bN Kn ?_
     refine cX h (fun Ko h=> ?_) fun Ko h=> ?_
     · refine bN Ko ?_
       obtain rfl:=aD h
       exact hK _ _ _ _ _ aU ay (kn _ hfr)
     · refine bN Ko ?_
       obtain ⟨Sj,Sp,h⟩:=au h
       refine bG ay (og Sp) ?_
       refine bk ?_
       obtain ⟨Sk,Sq,h⟩:=au h
       refine bG ay (og Sq) ?_
       refine bk ?_
       obtain rfl:=aD h
       exact hK _ _ _ _ _ aU ay (kn _ hfr)
theorem mo {F:Nat} {i33:Int} {r16:List aB} {nv:List aB} {H0 H:AH} (hfr:Fr H0 H0.length [] H) {K:Exit→Env→AH→Prop} {o:(Bool)⊕(Unit)}
 (h:iter (bX r16 nv) F i33=some o)
 (Ux:∀o':Unit,o= .inr o'→∀H':AH,Fr H0 H0.length [] H'→K (.exit 4) [] H')
 (kr:∀o':Bool,o= .inl o'→∀H':AH,Fr H0 H0.length [] H'→K .ret [(8,(.bool o'))] H'):
 AX Tryd.prog bU 143 H0.length (.loop (erase fW)) K [(12,(.sl .n 2 (ml aE r16))),(16,(.sl .n 2 (ml aE nv))),(18,(.int .i64 i33))] H:=by
 refine k8 (fun s e H1=>match s with|i33=>e=[(12,(.sl .n 2 (ml aE r16))),(16,(.sl .n 2 (ml aE nv))),(18,(.int .i64 i33))]∧Fr H0 H0.length [] H1) h ⟨rfl,hfr⟩ ?_
 rintro K' i33 st e H ⟨rfl,hfr⟩ h hN hB hR hX
 have hle:=hfr.le
 rw [bX.eq_1] at h
 refine bk ?_
 refine cB h (fun Sr h=> ?_) fun Sr h=> ?_
 · obtain ⟨PI,Ss,h⟩:=au h
   obtain ⟨PJ,Su,h⟩:=au h
   refine bN (aX Ss Su) ?_
   refine cB h (fun Sv h=> ?_) fun Sv h=> ?_
   · refine bk ?_
     obtain rfl:=aD h
     exact hX _ _ _ _ _ eN aU ay (kr _ (hR _ rfl) _ hfr)
   · refine bk ?_
     obtain rfl:=aD h
     exact hN _ rfl _ _ _ _ aU ay ⟨rfl,hfr⟩
 · refine bk ?_
   obtain rfl:=aD h
   exact hX _ _ _ _ _ eN WE.nil ay (Ux _ (hB _ rfl) _ hfr)
theorem oK {F:Nat} {b1:List UInt8} {bu:List UInt8} {cC:List UInt8} {t4:Int} {H0:AH} {aJ:Bool} (h:eV F b1 bu cC t4=some aJ):
 av Tryd.prog 13 [(.sl .n 1 (ml b8 b1)),(.str bu),(.str cC),(.int .i64 t4)] H0 fun v H'=>v=(.bool aJ)∧H'=H0:=by
 refine uS qf bU [] (F0:=fun _=>True) trivial fun hcl K0 aN H hfr hs=> ?_
 have hle:=hfr.le
 rw [eV.eq_1] at h
 refine bk ?_
 obtain ⟨r5,hy1,h⟩:=au h
 refine bG ay (rW hy1) ?_
 refine bk ?_
 refine cB h (fun bn h=> ?_) fun bn h=> ?_
 · refine bk ?_
   obtain rfl:=aD h
   exact aN _ _ _ bT (bW hfr hcl (bO bR (.bool false)) bS bJ ⟨rfl,rfl⟩)
 · refine bk ?_
   refine cy ay (mb (b1:=b1) (bu:=bu) (cC:=cC) (t4:=t4) hfr ?_)
   intro H hfr
   have hle:=hfr.le
   refine bk ?_
   refine cB h (fun bH h=> ?_) fun bH h=> ?_
   · refine bk ?_
     obtain rfl:=aD h
     exact aN _ _ _ bT (bW hfr hcl (bO bR (.bool true)) bS bJ ⟨rfl,rfl⟩)
   · refine bk ?_
     obtain ⟨Sl,tP,h⟩:=au h
     refine cy ay (mg (b1:=b1) (t4:=t4) hfr tP ?_ ?_)
     · rintro ⟨⟩ rfl H hfr
       try dsimp only at h
       have hle:=hfr.le
       refine bk ?_
       obtain ⟨⟨r16,sx⟩,tQ,h⟩:=au h
       dsimp only at h
       refine bG ay (iQ tQ) ?_
       refine bk ?_
       obtain ⟨t20,tR,h⟩:=au h
       refine cy ay (mh (bu:=bu) (cC:=cC) (t4:=t4) (r16:=r16) (sx:=sx) hfr tR ?_)
       intro H hfr
       have hle:=hfr.le
       refine bk ?_
       refine cB h (fun mU h=> ?_) fun mU h=> ?_
       · refine bk ?_
         obtain rfl:=aD h
         exact aN _ _ _ bT (bW hfr hcl (bO bR (.bool true)) bS bJ ⟨rfl,rfl⟩)
       · refine bk ?_
         obtain ⟨rq,tO,h⟩:=au h
         refine bG ay (qd tO) ?_
         refine bk ?_
         obtain ⟨Sm,tS,h⟩:=au h
         obtain ⟨AA,tT,h⟩:=au h
         obtain ⟨vb,tU,h⟩:=au h
         obtain ⟨GP,tV,h⟩:=au h
         have Au:dn 1 (ml b8 vb) (ml b8 b1)=some (ml b8 GP):=k5 (f:=b8) tV
         refine bN (aX tS (aX tT (aX tU Au))) ?_
         obtain ⟨⟨nv,De⟩,J7,h⟩:=au h
         dsimp only at h
         refine bG ay (iQ J7) ?_
         refine bk ?_
         refine JY ?_
         apply AX.freeze (s:=H.length) (cs:=[(.str rq.name),(.str rq.value)]) (by exact Mo) (fP.same (fP.same (fP.nil))) (by simp) rfl
         · repeat (first|exact FZ.nil|apply FZ.ep|apply FZ.same)
         refine Mp ?_
         obtain ⟨t32,Sw,h⟩:=au h
         refine cy ay (mj (Aq H.length (Aq H.length (Fr.app hfr))) Sw ?_)
         intro H hfr
         have hle:=hfr.le
         refine bk ?_
         refine cB h (fun Sx h=> ?_) fun Sx h=> ?_
         · refine bk ?_
           obtain rfl:=aD h
           exact aN _ _ _ bT (bW hfr hcl (bO bR (.bool false)) bS bJ ⟨rfl,rfl⟩)
         · refine bk ?_
           obtain ⟨Sn,Sy,h⟩:=au h
           refine cy ay (mo hfr Sy ?_ ?_)
           · rintro ⟨⟩ rfl H hfr
             try dsimp only at h
             have hle:=hfr.le
             refine bk ?_
             obtain rfl:=aD h
             exact aN _ _ _ bT (bW hfr hcl (bO bR (.bool true)) bS bJ ⟨rfl,rfl⟩)
           · rintro PK rfl H hfr
             try dsimp only at h
             have hle:=hfr.le
             refine bk ?_
             obtain rfl:=aD h
             exact aN _ _ _ bT (bW hfr hcl (bO bR (.bool PK)) bS bJ ⟨rfl,rfl⟩)
     · rintro C5 rfl H hfr
       try dsimp only at h
       have hle:=hfr.le
       refine bk ?_
       obtain rfl:=aD h
       exact aN _ _ _ bT (bW hfr hcl (bO bR (.bool C5)) bS bJ ⟨rfl,rfl⟩)
end Go.Proofs.ct
end
section
set_option maxRecDepth 100000
namespace Go.Proofs.ct
open Go Go.Am Go.Proofs
theorem Sz:∀w<7,∀c∈wk w,c≠13:=by decide
theorem SA:∀m<12,∀c∈mn m,c≠13:=by decide
theorem SB {n:Nat} (h:n<10):dg n≠13:=by
 have:∀n<10,dg n≠13:=by decide
 exact this n h
theorem MM {w a m y e:Nat} (hw:w<7) (hm:m<12) (ha:a<100) (hy:y≤9999) (he:e<86400):∀c∈vP w a m y e,c≠13:=by
 intro c hc
 unfold vP at hc
 simp only [List.mem_append,List.mem_cons,List.mem_nil_iff,or_false] at hc
 have h0:(44:UInt8)≠13∧(32:UInt8)≠13∧(58:UInt8)≠13∧(43:UInt8)≠13∧(48:UInt8)≠13:=by decide
 rcases hc with hc|hc|hc|hc|hc|hc|hc|hc|hc|hc|hc|hc|hc|hc|hc|hc|hc|hc|hc|hc|hc|hc|hc|hc|hc|hc|hc
 all_goals first
  |exact Sz w hw c hc
  |exact SA m hm c hc
  |(rw [hc];exact SB (by omega))
  |(rw [hc];first|exact h0.1|exact h0.2.1|exact h0.2.2.1|exact h0.2.2.2.1|exact h0.2.2.2.2)
theorem GW (t:Int) {F:Nat} (hF:3000000<F):∃d,cH F t=some d∧d.length=31∧∀c∈d,c≠13:=by
 have e:min (max (min (max t 0) 253402300799) 0) 253402300799=min (max t 0) 253402300799:=by omega
 have h1:cH F t=cH F (min (max t 0) 253402300799):=by
  unfold cH
  rw [e]
 obtain ⟨n,hn⟩:∃n:Nat,min (max t 0) 253402300799=(n:Int):=⟨(min (max t 0) 253402300799).toNat,by omega⟩
 have hn2:n≤253402300799:=by omega
 obtain ⟨y,m,a,hc,h⟩:=ML (F:=F) hn2 hF
 obtain ⟨hy,hm,ha⟩:=D5 hc (by omega)
 refine ⟨_,by rw [h1,hn];exact h,GV (Nat.mod_lt _ (by decide)) hm,MM (Nat.mod_lt _ (by decide)) hm (by omega) hy (Nat.mod_lt _ (by decide))⟩
def fB:List UInt8:=[82,101,99,101,105,118,101,100]
def here:List UInt8:=[104,101,114,101,46,101,120,97,109,112,108,101]
def l1 (fr gG id:List UInt8):List UInt8:=[32,102,114,111,109,32]++(fr++([32,98,121,32]++(gG++([32,119,105,116,104,32,83,77,84,80,32,105,100,32]++id))))
def l2 (p d:List UInt8):List UInt8:=[9,102,111,114,32]++(p++([59,32]++d))
theorem yq {fr gG id p d:List UInt8} {t:Int} {a:bQ} {F:Nat} (hp:fq F a=some p) (hd:cH F t=some d)
 (h1:fr.length≤300) (h2:gG.length≤300) (h3:id.length≤100) (h4:p.length≤1000) (h5:d.length=31):eu F fr gG id t a=some ⟨fB,l1 fr gG id++(nl++l2 p d)⟩:=by
 unfold eu
 rw [bM (by simp;omega)];simp only [Option.bind_some]
 rw [bM (by simp;omega)];simp only [Option.bind_some]
 rw [bM (by simp;omega)];simp only [Option.bind_some]
 rw [bM (by simp;omega)];simp only [Option.bind_some]
 rw [bM (by simp;omega)];simp only [Option.bind_some]
 rw [bM (by simp;omega)];simp only [Option.bind_some]
 rw [bM (by simp;omega),hp];simp only [Option.bind_some]
 rw [bM (by simp;omega)];simp only [Option.bind_some]
 rw [bM (by simp;omega),hd];simp only [Option.bind_some]
 rw [bM (by simp;omega)]
 simp [l1,l2,fB]
theorem ext_cons {f:aB} {s:List aB} {x:List UInt8} (hs:s≠[]):ext (f::s) x=f::ext s x:=by
 unfold ext
 obtain ⟨k,hk⟩:∃k,s.length=k+1:=by
  cases s with
  |nil=>exact absurd rfl hs
  |cons g r=>exact ⟨r.length,rfl⟩
 have h1:(f::s)[(f::s).length - 1]? =s[s.length - 1]? :=by simp [hk]
 rw [h1]
 cases s[s.length - 1]? with
 |none=>rfl
 |some g=>simp [hk]
theorem AI {f:aB} {s:List aB} {x:List UInt8} (hs:s≠[]):eK (f::s) x=eK s x:=by
 cases s with
 |nil=>exact absurd rfl hs
 |cons g r=>simp [eK]
theorem MN {s:List aB} {x:List UInt8} (hs:s≠[]):ext s x≠[]:=by
 unfold ext;split
 · simpa using hs
 · exact hs
theorem Df (f:aB):∀(n:Nat) (rest:List UInt8) (s:List aB),(s≠[]∨(rest.head?≠some 32∧rest.head?≠some 9))→
 ff n rest (f::s)=(f::(ff n rest s).1,(ff n rest s).2):=by
 intro n
 induction n with
 |zero=>intro rest s _;rfl
 |succ n ih=>
  intro rest s hs
  simp only [ff]
  cases hc:cg nl rest with
  |none=>rfl
  |some p=>
   obtain ⟨x,more⟩:=p
   have Hr:eK (f::s) x=eK s x:=by
    rcases hs with hs|⟨h1,h2⟩
    · exact AI hs
    · have hx:x.head?=none∨x.head?=rest.head?:=by
       rw [uw hc]
       cases x with
       |nil=>exact .inl rfl
       |cons c r=>exact .inr (by simp)
      unfold eK
      rcases hx with hx|hx
      · rw [hx];simp
      · rw [hx];simp [h1,h2]
   simp only [Hr]
   cases h:eK s x with
   |true=>
    simp only [if_true]
    have hs':s≠[]:=by
     rintro rfl;simp [eK] at h
    rw [ext_cons hs']
    exact ih _ _ (.inl (MN hs'))
   |false=>
    simp only [Bool.false_eq_true,if_false]
    cases nt x with
    |some g=>
     simp only
     rw [List.cons_append]
     exact ih _ _ (.inl (by simp))
    |none=>simp only;split<;>rfl
theorem GX:∀(n:Nat) (rest:List UInt8) (s:List aB),rest.length<n→ff (n+1) rest s=ff n rest s:=by
 intro n
 induction n with
 |zero=>intro rest s h;omega
 |succ n ih=>
  intro rest s h
  rw [ff]
  conv=>rhs;rw [ff]
  cases hc:cg nl rest with
  |none=>rfl
  |some p=>
   obtain ⟨x,more⟩:=p
   have hl:=congrArg List.length (uw hc)
   simp at hl
   simp only
   rw [ih _ _ (by omega)]
   cases nt x with
   |none=>rfl
   |some g=>simp only;rw [ih _ _ (by omega)]
theorem Kp {n m:Nat} {rest:List UInt8} {s:List aB} (h1:rest.length<n) (h2:n≤m):ff m rest s=ff n rest s:=by
 induction m with
 |zero=>omega
 |succ m ih=>
  rcases Nat.eq_or_lt_of_le h2 with h|h
  · rw [h]
  · rw [GX m rest s (by omega),ih (by omega)]
theorem GY {fr gG id:List UInt8}:nt (fB++([58]++l1 fr gG id))=some ⟨fB,l1 fr gG id⟩:=by
 unfold nt
 rw [GR (by decide)]
 rfl
theorem yt {fr gG id p d b:List UInt8} (h1:∀c∈fr,c≠13) (h2:∀c∈gG,c≠13) (h3:∀c∈id,c≠13) (h4:∀c∈p,c≠13) (h5:∀c∈d,c≠13) (hb:b.head?≠some 32∧b.head?≠some 9):
 jm (fB++([58]++(l1 fr gG id++(nl++(l2 p d++(nl++b))))))=(⟨fB,l1 fr gG id++(nl++l2 p d)⟩::(jm b).1,(jm b).2):=by
 have e:fB++([58]++(l1 fr gG id++(nl++(l2 p d++(nl++b)))))=(fB++([58]++(l1 fr gG id++(nl++l2 p d))))++(nl++b):=by simp
 have e2:whole (fB++([58]++(l1 fr gG id++(nl++(l2 p d++(nl++b))))))=(fB++([58]++l1 fr gG id))++(nl++(l2 p d++(nl++whole b))):=by
  rw [e,Db];simp
 have g1:cg nl ((fB++([58]++l1 fr gG id))++(nl++(l2 p d++(nl++whole b))))=some (fB++([58]++l1 fr gG id),l2 p d++(nl++whole b)):=by
  refine AG fun c hc=> ?_
  unfold l1 fB at hc
  simp only [List.mem_append] at hc
  rcases hc with hc|hc|hc|hc|hc|hc|hc|hc
  · revert c;decide
  · revert c;decide
  · revert c;decide
  · exact h1 c hc
  · revert c;decide
  · exact h2 c hc
  · revert c;decide
  · exact h3 c hc
 have g2:cg nl (l2 p d++(nl++whole b))=some (l2 p d,whole b):=by
  refine AG fun c hc=> ?_
  unfold l2 at hc
  simp only [List.mem_append] at hc
  rcases hc with hc|hc|hc|hc
  · revert c;decide
  · exact h4 c hc
  · revert c;decide
  · exact h5 c hc
 unfold jm
 rw [e2]
 obtain ⟨n,hn⟩:∃n,((fB++([58]++l1 fr gG id))++(nl++(l2 p d++(nl++whole b)))).length+1=n+1+1∧(whole b).length<n:=by
  refine ⟨((fB++([58]++l1 fr gG id))++(nl++(l2 p d++(nl++whole b)))).length - 1, ?_, ?_⟩<;>(simp [fB,l1,l2];try omega)
 rw [hn.1]
 have s1:ff (n+1+1) ((fB++([58]++l1 fr gG id))++(nl++(l2 p d++(nl++whole b)))) []=ff (n+1) (l2 p d++(nl++whole b)) [⟨fB,l1 fr gG id⟩]:=by
  rw [ff,g1]
  simp only
  rw [GY]
  rfl
 have s2:ff (n+1) (l2 p d++(nl++whole b)) [⟨fB,l1 fr gG id⟩]=ff n (whole b) [⟨fB,l1 fr gG id++(nl++l2 p d)⟩]:=by
  rw [ff,g2]
  rfl
 rw [s1,s2]
 have hw:(whole b).head?≠some 32∧(whole b).head?≠some 9:=by
  unfold whole
  split
  · exact hb
  · rename_i h
    cases b with
    |nil=>simp at h
    |cons c r=>simpa using hb
 rw [Df _ _ _ _ (.inr hw),Kp (n:=(whole b).length+1) (by omega) (by omega)]
theorem yu (name:List UInt8):∀(l:List aB) (v w:List UInt8) (n m:Nat),(l.foldl (kj name) (v,n+m)).2=n+(l.foldl (kj name) (w,m)).2:=by
 intro l
 induction l with
 |nil=>intro v w n m;rfl
 |cons f r ih=>
  intro v w n m
  simp only [List.foldl_cons]
  by_cases h:f.name.map low=name.map low
  · have g1:∀p,kj name p f=(if p.2=0 then f.value else p.1,p.2+1):=fun p=>by unfold kj;rw [if_pos h]
    rw [g1,g1]
    exact ih _ _ n (m+1)
  · have g1:∀p,kj name p f=p:=fun p=>by unfold kj;rw [if_neg h]
    rw [g1,g1]
    exact ih v w n m
theorem Kq:∀(n:Nat) (rest:List UInt8) (s:List aB),(ff n rest s).1.length≤s.length+rest.length:=by
 intro n
 induction n with
 |zero=>intro rest s;simp [ff]
 |succ n ih=>
  intro rest s
  rw [ff]
  cases hc:cg nl rest with
  |none=>simp
  |some p=>
   obtain ⟨x,more⟩:=p
   have hl:=congrArg List.length (uw hc)
   simp at hl
   simp only
   have he:(ext s x).length=s.length:=by unfold ext;split<;>simp
   split
   · have:=ih more (ext s x);omega
   · split
     · rename_i f _
       have:=ih more (s++[f]);simp at this;omega
     · split<;>simp
theorem MO:∀(n:Nat) (rest:List UInt8) (s:List aB),Ends rest→Bd rest s→(ff n rest s).1.length≤20000∧∀f∈(ff n rest s).1,f.name.length≤76:=by
 intro n
 induction n with
 |zero=>
  intro rest s he hb
  exact ⟨by simp only [ff];have:=hb.1;omega,fun f hf=>(hb.2 f hf).2⟩
 |succ n ih=>
  intro rest s he hb
  have h0:s.length≤20000∧∀f∈s,f.name.length≤76:=⟨by have:=hb.1;omega,fun f hf=>(hb.2 f hf).2⟩
  rw [ff]
  by_cases hr:rest=[]
  · subst hr;exact h0
  · obtain ⟨x,more,hc,hr2,SC⟩:=AD he hr
    rw [hc]
    simp only
    split
    · exact ih _ _ SC (hb.ext hr2)
    · split
      · rename_i f hf
        exact ih _ _ SC (hb.app hr2 hf)
      · split<;>exact h0
theorem Kr {b:List UInt8} (hb:b.length≤19000):(jm b).1.length≤20000∧∀f∈(jm b).1,f.name.length≤76:=by
 have hw:=oJ b
 exact MO _ _ _ (rK b) ⟨by simp;omega,by simp⟩
theorem Ks (n:Nat):ic (n+100)=some true:=by kernel_rfl
def uA (s:List UInt8):Bool:=s.all fun c=> !(decide (c=13)||decide (c=10))
theorem D6 {s:List UInt8} (h:uA s=true):∀c∈s,c≠13:=by
 intro c hc
 have:=List.all_eq_true.1 h c hc
 rintro rfl;simp at this
theorem rM {x:List UInt8} {F:Nat} (hx:x.length≤1000) (hF:2000<F):
 (uA x=true→iter (bE x) F 0=some (.inr ()))∧(uA x=false→∃j:Nat,iter (bE x) F 0=some (.inl true)):=by
 refine scan (s:=x) (body:=bE x) (mk:=fun i=>(i:Int)) (p:=fun c=> !(decide (c=13)||decide (c=10))) (rr:=fun _=>true) (tt:=()) ?_ ?_ ?_ (F:=F) (by omega)
 · intro k c hc hp
   have hk:=(List.getElem?_eq_some_iff.1 hc).1
   simp only [bE,cJ]
   rw [if_pos (by simpa using hk),gB hc]
   simp only [Option.bind_some]
   simp only [Bool.not_eq_true',Bool.or_eq_false_iff] at hp
   simp only [hp.1,hp.2,Bool.false_eq_true,if_false,Option.bind_some]
   rw [Kh (by omega)]
 · intro k c hc hp
   have hk:=(List.getElem?_eq_some_iff.1 hc).1
   simp only [bE,cJ]
   rw [if_pos (by simpa using hk),gB hc]
   simp only [Option.bind_some]
   by_cases h:c=13
   · simp [h]
   · have:c=10:=by simpa [h] using hp
     simp [this]
 · simp only [bE]
   rw [if_neg (by simp)]
theorem AJ {a b:List UInt8} {F:Nat} (ha:a.length≤1000) (hb:b.length≤1000) (hF:2000<F):
 (([a,b].all uA)=true→iter (bF F a b) F 0=some (.inr ()))∧(([a,b].all uA)=false→∃j:Nat,iter (bF F a b) F 0=some (.inl true)):=by
 refine scan (s:=[a,b]) (body:=bF F a b) (mk:=fun i=>(i:Int)) (p:=uA) (rr:=fun _=>true) (tt:=()) ?_ ?_ ?_ (F:=F) (by simp;omega)
 · intro k x hx hp
   have hk:=(List.getElem?_eq_some_iff.1 hx).1
   have hl:x.length≤1000:=by
    have:=List.mem_of_getElem? hx
    simp at this;rcases this with rfl|rfl<;>omega
   simp only [List.length_cons,List.length_nil] at hk
   simp only [bF]
   rw [if_pos (by simp;omega),gB hx]
   simp only [Option.bind_some]
   rw [(rM hl hF).1 hp]
   simp only [Option.bind_some]
   rw [Kh (by omega)]
 · intro k x hx hp
   have hk:=(List.getElem?_eq_some_iff.1 hx).1
   have hl:x.length≤1000:=by
    have:=List.mem_of_getElem? hx
    simp at this;rcases this with rfl|rfl<;>omega
   simp only [List.length_cons,List.length_nil] at hk
   simp only [bF]
   rw [if_pos (by simp;omega),gB hx]
   simp only [Option.bind_some]
   obtain ⟨_,h⟩:=(rM hl hF).2 hp
   rw [h];rfl
 · simp only [bF]
   rw [if_neg (by simp)]
theorem Dg {f:aB} {l:List aB} {F:Nat} (hl:l.length≤20000) (hF:20001<F):iter (bX l (f::l)) F 0=some (.inr ()):=by
 have:=lpo (ρ:=Bool) (s:=l) (body:=bX l (f::l)) (mk:=fun (_:Unit) i=>(i:Int)) (tt:=fun _=>()) (step:=fun _ _=>()) (fun _ _=>True) ?_ ?_ (F:=F) (a:=()) (by omega) trivial
 · exact this.1
 · intro _ i x hx _
   have hi:=(List.getElem?_eq_some_iff.1 hx).1
   refine ⟨?_,trivial⟩
   simp only [bX]
   rw [if_pos (by simpa using hi),Kh (by omega),gB (x:=x) (by simpa using hx),gB hx]
   simp only [Option.bind_some]
   rw [if_neg (by simp)]
 · intro _ _
   simp only [bX]
   rw [if_neg (by simp)]
theorem vt (b fr id:List UInt8) (t:Int):∃F,eV F b fr id t=some true:=by
 refine ⟨4000000+100, ?_⟩
 unfold eV
 rw [Ks]
 simp only [Option.bind_some,Bool.not_true,Bool.false_eq_true,if_false]
 by_cases hc:2000<b.length∨100<fr.length∨50<id.length
 · rw [if_pos (by simp;omega)]
 · rw [if_neg (by simp;omega)]
   have hb:b.length≤2000:=by omega
   have hf:fr.length≤100:=by omega
   have hi:id.length≤50:=by omega
   obtain ⟨c1,c2⟩:=AJ (a:=fr) (b:=id) (F:=4000000+100) (by omega) (by omega) (by omega)
   cases hn:[fr,id].all uA with
   |false=>obtain ⟨_,h⟩:=c2 hn;rw [h];rfl
   |true=>
    rw [c1 hn]
    simp only [Option.bind_some]
    rw [AF (by omega) (by omega)]
    simp only [Option.bind_some]
    have Uy:cK b=some (decide (b.head?=some 32)||decide (b.head?=some 9)):=by
     unfold cK
     cases b with
     |nil=>simp
     |cons c r=>
      rw [if_pos (by simp),show idx (c::r) 0=some c by simp [idx]]
      simp only [Option.bind_some,List.head?_cons,Option.some.injEq]
      by_cases h:c=32
      · simp [h]
      · simp [h]
    rw [Uy]
    simp only [Option.bind_some]
    by_cases hh:b.head?=some 32∨b.head?=some 9
    · rw [if_pos (by simpa using hh)]
    · rw [if_neg (by simpa using hh)]
      have Uz:b.head?≠some 32∧b.head?≠some 9:=by
       constructor
       · exact fun h=>hh (.inl h)
       · exact fun h=>hh (.inr h)
      obtain ⟨d,hd,SD,SE⟩:=GW t (F:=4000000+100) (by omega)
      have UA:fq (4000000+100) (bQ.mk [] [])=some [60,62]:=by
       unfold fq iU;rfl
      have hr:=yq (fr:=fr) (gG:=here) (id:=id) (t:=t) UA hd (by omega) (by decide) (by omega) (by decide) SD
      unfold here at hr
      rw [hr]
      simp only [Option.bind_some]
      have yG:(l1 fr here id).length=fr.length+id.length+36:=by simp [l1,here];omega
      have nP:(l2 [60,62] d).length=40:=by simp [l2,SD]
      unfold here at yG
      rw [bM (by simp [fB])]
      simp only [Option.bind_some]
      rw [bM (by simp [fB,yG,nP];omega)]
      simp only [Option.bind_some]
      rw [bM (by simp [fB,yG,nP];omega)]
      simp only [Option.bind_some]
      rw [nr (by simp [fB,yG,nP];omega) (by omega)]
      simp only [Option.bind_some]
      simp only [List.all_cons,List.all_nil,Bool.and_true,Bool.and_eq_true] at hn
      have hs:=yt (gG:=here) (D6 hn.1) (by decide) (D6 hn.2) (p:=[60,62]) (by decide) SE Uz
      have e:((fB++[58])++(l1 fr [104,101,114,101,46,101,120,97,109,112,108,101] id++(nl++l2 [60,62] d)))++[13,10]++b=fB++([58]++(l1 fr here id++(nl++(l2 [60,62] d++(nl++b))))):=by
       simp [here]
      rw [e,AF (by rw [←e];simp [fB,yG,nP];omega) (by omega),hs]
      simp only [Option.bind_some]
      obtain ⟨k1,k2⟩:=Kr (b:=b) (by omega)
      have hk:(jm b).1.length≤2002:=by
       have h1:=Kq ((whole b).length+1) (whole b) []
       have h2:=oJ b
       unfold jm;simp at h1;omega
      have k3:∀f∈(jm b).1,f.name.length≤2100:=fun f hf=>by have:=k2 f hf;omega
      unfold dH
      rw [if_neg (by rw [Kh (by omega)];simp),show ∀(f:aB) (l:List aB),idx (f::l) 0=some f from fun f l=>by simp [idx]]
      simp only [Option.bind_some]
      rw [if_neg (by simp [fB,here]),if_neg (by simp)]
      unfold jl
      rw [Kf (by simp;omega) (by simp) (fun f hf=>by
          rcases List.mem_cons.1 hf with rfl|hf
          · simp [fB]
          · exact k3 f hf) (by omega) (by simp;omega),Kf (by omega) (by simp) k3 (by omega) (by omega)]
      simp only [Option.bind_some]
      have SF:∀f:aB,f.name=fB→(rL (f::(jm b).1) [82,101,99,101,105,118,101,100]).2=1+(rL (jm b).1 [82,101,99,101,105,118,101,100]).2:=by
       intro f hf
       unfold rL
       rw [List.foldl_cons]
       have:kj [82,101,99,101,105,118,101,100] (([]:List UInt8),0) f=(f.value,1+0):=by
        unfold kj;rw [if_pos (by rw [hf];rfl)];simp
       rw [this]
       exact yu _ _ _ _ 1 0
      rw [SF _ rfl]
      have hcl:∀l:List aB,∀p:List UInt8×Nat,(l.foldl (kj [82,101,99,101,105,118,101,100]) p).2≤p.2+l.length:=by
       intro l
       induction l with
       |nil=>intro p;simp
       |cons f r ih=>
        intro p
        rw [List.foldl_cons]
        have h1:=ih (kj [82,101,99,101,105,118,101,100] p f)
        have h2:(kj [82,101,99,101,105,118,101,100] p f).2≤p.2+1:=by unfold kj;split<;>simp
        simp;omega
      have Ve:(rL (jm b).1 [82,101,99,101,105,118,101,100]).2≤2002:=by
       have:=hcl (jm b).1 ([],0);unfold rL;simp at this;omega
      rw [Kh (by omega),if_neg (by simp;omega),Dg (by omega) (by omega)]
      rfl
end Go.Proofs.ct
end
section
namespace Go.Am
open Go Go.RowKit
variable [Tabs]
def C0 (W:World) (b:Nat):List Value:=match W.heap[b]? with
 |some (.cells cs _ _)=>cs.toList
 |_=>[]
theorem av.row {P:Program} {f:Nat} {args:List AV} {R:AV→AH→Prop} (h:av P f args [] R) {W:World} {vs:Array Value} (htab:∀e∈Tabs.l,∃cs ty fr,W.heap[e.1]? =some (.cells cs ty fr)∧e.2 cs) (hl:vs.size=args.length)
 (hv:∀(i:Nat) (a:AV),args[i]? =some a→VR (C0 W) [] a (vs.getD i undef)∧TC W (C0 W) a (vs.getD i undef)∧a.plain=true):
 Calls P f vs W fun e w'=>∃r v aj γ' C',e= .returned v∧R r aj∧VR C' γ' r v∧Below W.heap.size W w':=by
 have hg:∀t,get (cx 0 args) t=(args[t]?).getD .un:=fun t=>by rw [cq];simp
 have hno:∀p b,¬blk [] (cx 0 args) [] vs W p b:=by
  intro p b hp
  cases p with
  |obj s=>simp [blk] at hp
  |cell s i=>obtain ⟨cs,a,b0,h1, -⟩:=hp;simp at h1
  |tmp t=>
   simp only [blk,hg] at hp
   cases ht:args[t]? with
   |none=>rw [ht] at hp;simp [aV] at hp
   |some a=>rw [ht] at hp;simp only [Option.getD_some] at hp;rw [dL _ (dy (hv t a ht).2.2)] at hp;cases hp
 have hs:SR [] args.length (fun b=>b<W.heap.size) [] (C0 W) (cx 0 args) [] vs W:=by
  refine ⟨⟨rfl,fun s b cs hs=>by simp at hs,fun b hne=> ?_,fun s b cs hs=>by simp at hs,fun s b cs us ty fr hs=>by simp at hs⟩,hl,fun t=> ?_,fun p q b hp=>absurd hp (hno p b),fun p b hp=>absurd hp (hno p b),⟨fun b hb=>hb,fun e he=> ?_⟩,fun t l k xs ht=> ?_⟩
  · unfold C0 at hne ⊢
    split at hne
    · rename_i cs ty fr hb
      rw [hb]
      exact ⟨cs,ty,fr,rfl,List.prefix_refl _⟩
    · exact absurd rfl hne
  · rw [hg]
    cases ht:args[t]? with
    |none=>exact ⟨.un ..,by cases vs.getD t undef<;>trivial⟩
    |some a=>exact ⟨(hv t a ht).1,(hv t a ht).2.1⟩
  · obtain ⟨cs0,ty,fr,h2,h5⟩:=htab e he
    have h4:e.1<W.heap.size:=by
     rcases Nat.lt_or_ge e.1 W.heap.size with h3|h3
     · exact h3
     · rw [Array.getElem?_eq_none h3] at h2;cases h2
    exact ⟨h4,cs0,ty,fr,h2,h5⟩
  · rw [hg] at ht
    cases hq:args[t]? with
    |none=>rw [hq] at ht;simp at ht
    |some a=>rw [hq] at ht;exact absurd ht (nJ (hv t a hq).2.2 l k xs)
 refine (h.2 _ [] (C0 W) W vs hs).mono ?_
 rintro e w' ⟨r,v,aj,γ',C',rfl,hR, -,hs',hx⟩
 refine ⟨r,v,aj,γ',C',rfl,hR, ?_,hx.out.1,hx.out.2.1,hx.out.2.2,hx.size,fun k hk=>(hx.keep k hk).1⟩
 have:=(hs'.env 0).1
 simpa [get] using this
end Go.Am
end
section
namespace Go.Am
open Go Go.RowKit Go.Deep
variable [Tabs]
theorem AK {W:World} {b o:Nat} {v:Value} (h:W.cell? ⟨b,o,none⟩=some v):o<(C0 W b).length∧(C0 W b).getD o undef=v:=by
 unfold C0
 unfold World.cell? at h
 simp only at h
 split at h
 · rename_i cs ty fr hb
   rw [hb]
   simp only at h ⊢
   have hlt:o<cs.size:=by
    rcases Nat.lt_or_ge o cs.size with h'|h'
    · exact h'
    · rw [Array.getElem?_eq_none h'] at h;cases h
   rw [Array.getElem?_eq_getElem hlt] at h
   injection h with h
   refine ⟨by simpa using hlt, ?_⟩
   rw [List.getD_eq_getElem?_getD,List.getElem?_eq_getElem (by simpa using hlt)]
   simpa using h
 · cases h
section
variable {H:Type} {enc:TypeId×Value→H} {P:Program} {W:World} {sp:Nat→Bool} {held:Bool}
theorem UB {t e:TypeId} {A:Type} (g:A→AV) {v:Value} {d:DataW H} {ps:List MemPlace} {base:Nat} {r:Reach} (ht:P.underlying t=some (.slice e)) (hc:P.cellsOf e=1) (hval:Value.okWide P W r base t v)
 (h:DataW.Trod enc P W 0 sp held t v d ps)
 (hg:∀x,(g x).cells=[g x]) (he:∀n V y,DataW.trod enc P W 0 sp held n e [V]=some y→V.oneCell'=true∧∃x,VR (C0 W) [] (g x) V):∃xs:List A,VR (C0 W) [] (.sl .n 1 (xs.map g)) v:=by
 have hv:(v= .slice none 0 0)∨∃a len cap,v= .slice (some a) len cap∧a.spot=none:=by
  unfold Value.okWide at hval
  rw [ht] at hval
  simp only [Cell.okWide,ht,Cell.ok] at hval
  cases v with
  |slice a len cap=>
   cases a with
   |none=>cases len<;>cases cap<;>first|exact .inl rfl|exact hval.elim
   |some a=>exact .inr ⟨a,len,cap,rfl,hval.2.2.2.1⟩
  |_=>exact hval.elim
 obtain ⟨fuel,h⟩:=h
 rcases hv with rfl|⟨a,len,cap,rfl,hsp⟩
 · exact ⟨[], .jN ..⟩
 · rcases open_slice1 ht hc h with ⟨h0, -⟩|⟨a',len',cap',m,n,V,D,Pl,h1,hb,hl,hm,uG,hx,hall⟩
   · simp [Value.cells] at h0
   · have h1:a'=a∧len'=len∧cap'=cap:=by simpa [Value.cells,eq_comm] using h1
     obtain ⟨rfl,rfl,rfl⟩:=h1
     have UD:len'≤m:=by rw [uG];split<;>omega
     have key:∀i,i<len'→∃x,VR (C0 W) [] (g x) (V i):=fun i hi=>(he n (V i) _ (hall i (by omega)).2).2
     obtain ⟨b,o,s⟩:=a'
     simp only at hsp
     subst hsp
     have hcell:∀i,i<len'→o+i<(C0 W b).length∧(C0 W b).getD (o+i) undef=V i:=fun i hi=>by
      have:=(hall i (by omega)).1
      rw [add_eq] at this
      exact AK this
     by_cases h0:len'=0
     · subst h0;exact ⟨[], .jN ..⟩
     let f:Nat→A:=fun i=>if hi:i<len' then Classical.choose (key i hi) else Classical.choose (key 0 (by omega))
     have hf:∀i,i<len'→VR (C0 W) [] (g (f i)) (V i):=fun i hi=>by
      show VR (C0 W) [] (g (if hi:i<len' then Classical.choose (key i hi) else Classical.choose (key 0 (by omega)))) (V i)
      rw [dif_pos hi]
      exact Classical.choose_spec (key i hi)
     refine ⟨(List.range len').map f, .sl _ _ _ _ _ _ _ _ (by simp) hl (fun i a hi=> ?_) ?_ (fun q h1 h2=> ?_) fun i a hi j y hj=> ?_⟩
     · rw [List.getElem?_map,List.getElem?_map] at hi
       cases hr:(List.range len')[i]? with
       |none=>rw [hr] at hi;simp at hi
       |some q=>rw [hr] at hi;simp at hi;subst hi;rw [hg];rfl
     · have:=(hcell (len' - 1) (by omega)).1;omega
     · have:=hcell (q - o) (by omega)
       rw [show o+(q - o)=q by omega] at this
       rw [this.2]
       exact (he n (V (q - o)) _ (hall (q - o) (by omega)).2).1
     · rw [List.getElem?_map,List.getElem?_map] at hi
       cases hr:(List.range len')[i]? with
       |none=>rw [hr] at hi;simp at hi
       |some q=>
        rw [hr] at hi
        have hq:=(List.getElem?_eq_some_iff.1 hr)
        obtain ⟨hlt,hq⟩:=hq
        simp at hlt hq
        subst hq
        simp at hi
        subst hi
        rw [hg] at hj
        cases j with
        |zero=>
         simp at hj
         subst hj
         have:=hcell i hlt
         rw [Nat.mul_one,Nat.add_zero,this.2]
         exact hf i hlt
        |succ j=>simp at hj
end
end Go.Am
end
section
namespace Go.Am
open Go Go.RowKit Go.Deep
variable [Tabs]
def CR (W:World) (zq:List AV) (vs:List Value):Prop:=
 zq.length=vs.length∧(∀v∈vs,v.oneCell'=true)∧∀(j:Nat) (a:AV),zq[j]? =some a→VR (C0 W) [] a (vs.getD j undef)
theorem CR.nil {W:World}:CR W [] []:=⟨rfl,by simp,by simp⟩
theorem CR.one {W:World} {a:AV} {V:Value} (h:VR (C0 W) [] a V) (ho:V.oneCell'=true):CR W [a] [V]:=by
 refine ⟨rfl,by simpa using ho,fun j b hj=> ?_⟩
 rcases j with _|j
 · simp at hj;subst hj;simpa using h
 · simp at hj
theorem CR.append {W:World} {zq bs:List AV} {vs ws:List Value} (h:CR W zq vs) (h2:CR W bs ws):CR W (zq++bs) (vs++ws):=by
 refine ⟨by simp [h.1,h2.1],fun v hv=> ?_,fun j a hj=> ?_⟩
 · rcases List.mem_append.1 hv with hv|hv
   · exact h.2.1 v hv
   · exact h2.2.1 v hv
 · rw [List.getElem?_append] at hj
   split at hj
   · rename_i hlt
     have:=h.2.2 j a hj
     rw [List.getD_eq_getElem?_getD,List.getElem?_append_left (by rw [←h.1];exact hlt), ←List.getD_eq_getElem?_getD]
     exact this
   · rename_i hlt
     have:=h2.2.2 _ a hj
     rw [List.getD_eq_getElem?_getD,List.getElem?_append_right (by rw [←h.1];omega), ←List.getD_eq_getElem?_getD, ←h.1]
     exact this
def AV.Kt:AV→Bool
 | .sl .n _ _=>true
 | .sl _ _ _| .agg _| .aL _=>false
 |_=>true
def AV.PL:AV→Bool
 | .agg cs=>cs.all AV.Kt
 |a=>a.Kt
theorem TC.enc {w:World} {C:Nat→List Value} {a:AV} (h:a.PL=true) (v:Value):TC w C a v:=by
 have h1:∀(a:AV) (v:Value),a.Kt=true→fy a v:=by
  intro a v h
  cases a with
  |sl t k xs=>cases t<;>first|exact v7 .. |cases h
  |_=>first|(cases h;done)|(cases v<;>trivial)
 cases a with
 |agg cs=>
  cases v with
  |agg vs=>
   intro i a hi
   exact h1 a _ (List.all_eq_true.1 h a (List.mem_of_getElem? hi))
  |_=>trivial
 |sl t k xs=>cases t<;>first|(cases h;done)|(cases v<;>trivial)
 |_=>first|(cases h;done)|(cases v<;>trivial)
section
variable {H:Type} (enc:TypeId×Value→H) (P:Program) (W:World) (sp:Nat→Bool) (held:Bool)
def Op (t:TypeId) {A:Type} (f:A→AV):Prop:=∀n cs y,DataW.trod enc P W 0 sp held n t cs=some y→∃x:A,CR W (f x).cells cs
end
section
variable {H:Type} {enc:TypeId×Value→H} {P:Program} {W:World} {sp:Nat→Bool} {held:Bool}
theorem MP {t:TypeId} {k:IntKind} (ht:P.underlying t=some (.int k)):Op enc P W sp held t (vK k):=by
 intro n cs y h
 cases n with
 |zero=>simp [DataW.trod] at h
 |succ n=>
  rcases cs with _|⟨V,_|⟨V2,r⟩⟩
  · simp [DataW.trod,ht] at h
  · cases V<;>simp [DataW.trod,ht] at h
    rename_i k' z
    obtain ⟨⟨rfl,hw⟩, -⟩:=h
    exact ⟨z,CR.one (.int ..) rfl⟩
  · simp [DataW.trod,ht] at h
theorem PM {t:TypeId} (ht:P.underlying t=some (.int .u8)):Op enc P W sp held t b8:=by
 intro n cs y h
 cases n with
 |zero=>simp [DataW.trod] at h
 |succ n=>
  rcases cs with _|⟨V,_|⟨V2,r⟩⟩
  · simp [DataW.trod,ht] at h
  · cases V<;>simp [DataW.trod,ht] at h
    rename_i k' z
    obtain ⟨⟨rfl,hw⟩, -⟩:=h
    have hz:0≤z∧z≤255:=by
     simp [Lit.wf,IntKind.min,IntKind.max,IntKind.bits,IntKind.signed] at hw
     omega
    refine ⟨UInt8.ofNat z.toNat,CR.one ?_ rfl⟩
    have:((UInt8.ofNat z.toNat).toNat:Int)=z:=by simp [UInt8.toNat_ofNat];omega
    simp only [b8,this]
    exact .int ..
  · simp [DataW.trod,ht] at h
theorem SG {t:TypeId} (ht:P.underlying t=some .bool):Op enc P W sp held t AV.bool:=by
 intro n cs y h
 cases n with
 |zero=>simp [DataW.trod] at h
 |succ n=>
  rcases cs with _|⟨V,_|⟨V2,r⟩⟩
  · simp [DataW.trod,ht] at h
  · cases V<;>simp [DataW.trod,ht] at h
    exact ⟨_,CR.one (.bool ..) rfl⟩
  · simp [DataW.trod,ht] at h
theorem D7 {t:TypeId} (ht:P.underlying t=some .string):Op enc P W sp held t AV.str:=by
 intro n cs y h
 cases n with
 |zero=>simp [DataW.trod] at h
 |succ n=>
  rcases cs with _|⟨V,_|⟨V2,r⟩⟩
  · simp [DataW.trod,ht] at h
  · cases V<;>simp [DataW.trod,ht] at h
    rename_i s
    refine ⟨s.data.toList,CR.one ?_ rfl⟩
    have:s=⟨s.data.toList.toArray⟩:=by cases s;simp
    have h2:=VR.str (C:=C0 W) [] s.data.toList
    rwa [←this] at h2
  · simp [DataW.trod,ht] at h
theorem AL {A:Type} {p:Nat→A→Prop}:∀(n:Nat),(∀i,i<n→∃x,p i x)→∃xs:List A,xs.length=n∧∀(i:Nat) (x:A),xs[i]? =some x→p i x:=by
 intro n
 induction n with
 |zero=>intro _;exact ⟨[],rfl,by simp⟩
 |succ n ih=>
  intro h
  obtain ⟨xs,h1,h2⟩:=ih fun i hi=>h i (by omega)
  obtain ⟨x,hx⟩:=h n (by omega)
  refine ⟨xs++[x],by simp [h1],fun i y hy=> ?_⟩
  rw [List.getElem?_append] at hy
  split at hy
  · exact h2 i y hy
  · rename_i hlt
    have:i=n:=by
     have:=(List.getElem?_eq_some_iff.1 hy).1
     simp at this;omega
    subst this
    rw [h1] at hy;simp at hy;subst hy;exact hx
theorem PN {t e:TypeId} {k:Nat} {A:Type} {f:A→AV} (ht:P.underlying t=some (.slice e)) (hk:P.cellsOf e=k) (oS:0<k) (hop:Op enc P W sp held e f) (hf:∀x,(f x).cells.length=k):
 Op enc P W sp held t (fun xs:List A=>AV.sl .n k (ml f xs)):=by
 intro n cs y h
 rcases open_slice ht h with ⟨rfl, -⟩|⟨a,len,cap,m,fu,D,Pl,rfl,hb,hl,hm,uG, -,hx⟩
 · exact ⟨[],CR.one (.jN ..) rfl⟩
 have UD:len≤m:=by rw [uG];split<;>omega
 by_cases h0:len=0
 · subst h0;exact ⟨[],CR.one (.jN ..) rfl⟩
 subst hk
 have hel:∀i,i<len→∃x:A,∃cs',W.cells? 0 (a.add (i*P.cellsOf e)) (P.cellsOf e)=some cs'∧CR W (f x).cells cs':=fun i hi=>by
  obtain ⟨cs',h1,h2⟩:=hx i (by omega)
  obtain ⟨x,hc⟩:=hop _ _ _ h2
  exact ⟨x,cs',h1,hc⟩
 have hsp:a.spot=none:=by
  obtain ⟨x,cs',h1,hc⟩:=hel 0 (by omega)
  obtain ⟨-,h2,h3⟩:=World.cells?_some h1
  have h4:=h3 0 oS
  have h5:(a.add (0*P.cellsOf e)).add 0=a:=by simp [Addr.add]
  rw [h5,List.getElem?_eq_getElem (by omega)] at h4
  unfold World.cell? at h4
  split at h4
  · split at h4
    · cases h4
    · rename_i hq;cases hs:a.spot<;>simp_all
  · cases h4
 obtain ⟨b,o,s⟩:=a
 simp only at hsp
 subst hsp
 obtain ⟨xs,hlen,hxs⟩:=AL len hel
 have hcell:∀(i:Nat) (x:A),xs[i]? =some x→∃cs',CR W (f x).cells cs'∧cs'.length=P.cellsOf e∧∀j,j<P.cellsOf e→o+i*P.cellsOf e+j<(C0 W b).length∧(C0 W b).getD (o+i*P.cellsOf e+j) undef=cs'.getD j undef:=fun i x hi=>by
  obtain ⟨cs',h1,hc⟩:=hxs i x hi
  obtain ⟨-,h2,h3⟩:=World.cells?_some h1
  refine ⟨cs',hc,h2,fun j hj=> ?_⟩
  have h4:=h3 j hj
  rw [add_add,add_eq,List.getElem?_eq_getElem (by omega)] at h4
  have:=AK h4
  rw [Nat.add_assoc,List.getD_eq_getElem?_getD (l:=cs'),List.getElem?_eq_getElem (by omega)]
  exact this
 refine ⟨xs,CR.one (.sl _ _ _ _ _ _ _ _ (by rw [nM,hlen]) hl (fun i a hi=> ?_) ?_ (fun q h1 h2=> ?_) fun i a hi j y hj=> ?_) rfl⟩
 · rw [ml,List.getElem?_map] at hi
   cases hr:xs[i]? with
   |none=>rw [hr] at hi;simp at hi
   |some x=>rw [hr] at hi;simp at hi;subst hi;exact hf x
 · have A5:len - 1<xs.length:=by omega
   obtain ⟨cs', -, -,h3⟩:=hcell (len - 1) _ (List.getElem?_eq_getElem A5)
   have:=(h3 (P.cellsOf e - 1) (by omega)).1
   have h5:len*P.cellsOf e=(len - 1)*P.cellsOf e+P.cellsOf e:=by
    conv=>lhs;rw [show len=(len - 1)+1 by omega,Nat.succ_mul]
   omega
 · have hq:q - o<len*P.cellsOf e:=by omega
   have hi:(q - o) / P.cellsOf e<len:=Nat.div_lt_of_lt_mul (by rw [Nat.mul_comm];exact hq)
   have hj:(q - o) % P.cellsOf e<P.cellsOf e:=Nat.mod_lt _ oS
   obtain ⟨cs',hc,h2,h3⟩:=hcell ((q - o) / P.cellsOf e) _ (List.getElem?_eq_getElem (by omega))
   have h4:=(h3 _ hj).2
   have h5:o+(q - o) / P.cellsOf e*P.cellsOf e+(q - o) % P.cellsOf e=q:=by
    have:=Nat.div_add_mod (q - o) (P.cellsOf e)
    rw [Nat.mul_comm] at this
    omega
   rw [h5] at h4
   rw [h4,List.getD_eq_getElem?_getD,List.getElem?_eq_getElem (by omega)]
   exact hc.2.1 _ (List.getElem_mem ..)
 · rw [ml,List.getElem?_map] at hi
   cases hr:xs[i]? with
   |none=>rw [hr] at hi;simp at hi
   |some x=>
    rw [hr] at hi;simp at hi;subst hi
    obtain ⟨cs',hc,h2,h3⟩:=hcell i x hr
    have hjl:j<P.cellsOf e:=by rw [←hf x];exact (List.getElem?_eq_some_iff.1 hj).1
    rw [(h3 j hjl).2]
    exact hc.2.2 j y hj
theorem PO {t:TypeId} {fs:Array Field} {A:Type} {f:A→AV} (ht:P.underlying t=some (.struct fs))
 (hb:∀cs:List Value,cs.length=P.cellsOf t→(∀(i:Nat) (fl:Field),fs[i]? =some fl→∃n y,DataW.trod enc P W 0 sp held n fl.type ((cs.drop fl.offset).take (P.cellsOf fl.type))=some y)→∃x,CR W (f x).cells cs):
 Op enc P W sp held t f:=by
 intro n cs y h
 obtain ⟨xs,m, -, -,hl,hlen,hf⟩:=DataW.trod_struct ht h
 refine hb cs hl fun i fl hfl=> ?_
 have hlt:i<xs.length:=by rw [hlen];exact (Array.getElem?_eq_some_iff.1 hfl).1
 exact ⟨m,xs[i],by rw [hf i fl hfl,List.getElem?_eq_getElem hlt]⟩
theorem seg {cs:List Value} {o k:Nat}:(cs.drop o).take k++cs.drop (o+k)=cs.drop o:=by
 rw [←List.drop_drop,List.take_append_drop]
theorem Op.arg1 {t:TypeId} {A:Type} {f:A→AV} (hop:Op enc P W sp held t f) (hf:∀x,(f x).cells=[f x]) {v:Value} {d:DataW H} {ps:List MemPlace} {r:Reach} {base:Nat} (hs:∀cs,¬Value.okWide P W r base t (.agg cs))
 (hval:Value.okWide P W r base t v) (h:DataW.Trod enc P W 0 sp held t v d ps):∃x,VR (C0 W) [] (f x) v:=by
 obtain ⟨fuel,h⟩:=h
 obtain ⟨x,h1, -,h3⟩:=hop _ _ _ h
 rw [hf] at h1 h3
 have hc:v.cells.toList=[v]:=by
  cases v with
  |agg cs=>exact absurd hval (hs cs)
  |_=>rfl
 rw [hc] at h3
 exact ⟨x,by simpa using h3 0 (f x) rfl⟩
theorem Op.Vf {t:TypeId} {A:Type} {f:A→AV} (hop:Op enc P W sp held t f) {fs:Array Field} (ht:P.underlying t=some (.struct fs)) (hf:∀x,f x= .agg (f x).cells) {v:Value} {d:DataW H} {ps:List MemPlace} {r:Reach} {base:Nat}
 (hval:Value.okWide P W r base t v) (h:DataW.Trod enc P W 0 sp held t v d ps):∃x,VR (C0 W) [] (f x) v:=by
 obtain ⟨fuel,h⟩:=h
 obtain ⟨x,h1, -,h3⟩:=hop _ _ _ h
 unfold Value.okWide at hval
 rw [ht] at hval
 obtain ⟨cs,rfl, -, -⟩:=hval
 refine ⟨x, ?_⟩
 rw [hf x]
 refine .agg _ _ _ (by simpa [Value.cells] using h1) fun i a hi=> ?_
 have:=h3 i a hi
 simpa [Value.cells,Array.getD_eq_getD_getElem?,List.getD_eq_getElem?_getD] using this
theorem Dh {t:TypeId} {k:IntKind} {r:Reach} {base:Nat} (ht:P.underlying t=some (.int k)) (cs:Array Value):¬Value.okWide P W r base t (.agg cs):=by
 simp [Value.okWide,Cell.okWide,Cell.ok,ht]
theorem Ng {t:TypeId} {r:Reach} {base:Nat} (ht:P.underlying t=some .bool) (cs:Array Value):¬Value.okWide P W r base t (.agg cs):=by
 simp [Value.okWide,Cell.okWide,Cell.ok,ht]
theorem uB {t:TypeId} {r:Reach} {base:Nat} (ht:P.underlying t=some .string) (cs:Array Value):¬Value.okWide P W r base t (.agg cs):=by
 simp [Value.okWide,Cell.okWide,Cell.ok,ht]
theorem G0 {t e:TypeId} {r:Reach} {base:Nat} (ht:P.underlying t=some (.slice e)) (cs:Array Value):¬Value.okWide P W r base t (.agg cs):=by
 simp [Value.okWide,Cell.okWide,Cell.ok,ht]
theorem uC {ts:List TypeId} (hl:laidOutB P=true) {W W':World} (hb:Below W.heap.size W W'):∀ {vs:List Value} {ds:List (DataW H)} {ps:List MemPlace},(∀t∈ts,P.readableRec t=true∧t<P.types.size)→
 DataW.TrodAll enc P W 0 (fun _=>true) true ts vs ds ps→(∀x∈ps,x.block<W.heap.size)→DataW.TrodAll enc P W' 0 (fun b=>decide (b<W.heap.size)) true ts vs ds ps:=by
 induction ts with
 |nil=>
  intro vs ds ps _ h _
  cases vs<;>cases ds<;>simp [DataW.TrodAll] at h ⊢
  exact h
 |cons t ts ih=>
  intro vs ds ps ht h hlt
  cases vs<;>cases ds<;>simp only [DataW.TrodAll] at h ⊢
  obtain ⟨p,q,h1,h2,rfl⟩:=h
  exact ⟨p,q,Below.trod hl (ht t (by simp)).1 (ht t (by simp)).2 h1 hb (fun x hx=>hlt x (by simp [hx])),ih (fun t h=>ht t (by simp [h])) h2 (fun x hx=>hlt x (by simp [hx])),rfl⟩
end
end Go.Am
end
section
namespace Go.Proofs.YtfnnmecilcnloaaDoor
open Go.ChangeShapes Go.WideShapes Go.ChangeAt Go.RowKit Go.Am Go.Proofs.ct
theorem PR.own:ownKnob Tryd.prog.godebug=none:=by kernel_rfl
theorem PR.laidOut:laidOutB Tryd.prog=true:=by kernel_rfl
def kU:List (String×DataW Unit):=[("math/bits.deBruijn32tab",Rows.laid_math_bits_deBruijn32tab),("math/bits.deBruijn64tab",Rows.laid_math_bits_deBruijn64tab),("internal/strconv.uint64pow10",Rows.laid_internal_strconv_uint64pow10),("unicode/utf8.acceptRanges",Rows.laid_unicode_utf8_acceptRanges),("strconv.ErrRange",Rows.laid_strconv_ErrRange),("strconv.ErrSyntax",Rows.laid_strconv_ErrSyntax),("unicode/utf8.first",Rows.laid_unicode_utf8_first)]
noncomputable def oL (os:Os):World:=
 {World.doorLaid Tryd.prog 4000 os with heap:=(World.doorLaid Tryd.prog 4000 os).heap.modify 4 fun
  | .cells _ t fr=> .cells (Go.Pinned.utf8FirstZ.map fun n:Nat=>Value.int .u8 (n:Int)).toArray t fr
  |o=>o}
set_option maxRecDepth 100000 in
theorem G1 (os:Os) (args:Array Value):laidMetH Tryd.prog kU ((oL os).forCall (fun _ _=>0) ⟨#[],args,[]⟩).memory:=
 laidMetH_of_parts3 (fuel:=8) (laidMet_of_run' 8 (by kernel_rfl) (by kernel_rfl)) (by kernel_rfl) (by kernel_rfl)
set_option maxRecDepth 100000 in
theorem yw (os:Os) (args:Array Value):((oL os).forCall (fun _ _=>0) ⟨#[],args,[]⟩).Shaped Tryd.prog:=World.shaped_of_RefB (by kernel_rfl) (by kernel_rfl)
end Go.Proofs.YtfnnmecilcnloaaDoor
end
section
namespace Go.Proofs.YtfnnmecilcnloaaDoor
open Go.ChangeShapes Go.WideShapes Go.ChangeAt Go.RowKit Go.Am Go.Proofs.ct
theorem vQ {t:TypeId} {ms:Array (String×TypeId)} (ht:Tryd.prog.underlying t=some (.interface ms)) {H:Type} {enc:TypeId×Value→H} {W:World} {sp:Nat→Bool} {held:Bool} {fuel:Nat} {cs:List Value} {y:DataW H×List MemPlace}
 (h:DataW.trod enc Tryd.prog W 0 sp held fuel t cs=some y):∃ev,cs=[ev]∧(ev= .nilIface∨∃te pe,ev= .iface te pe):=by
 cases fuel with
 |zero=>simp [DataW.trod] at h
 |succ n=>
  rcases cs with _|⟨v,_|⟨v2,r⟩⟩
  · simp [DataW.trod,ht] at h
  · cases v<;>first|exact ⟨_,rfl, .inl rfl⟩|exact ⟨_,rfl, .inr ⟨_,_,rfl⟩⟩|(exfalso;simp [DataW.trod,ht] at h)
  · cases v<;>simp [DataW.trod,ht] at h
theorem oM {W:World} {name:String} {g:Nat} {cs:Array Value} (hg:Tryd.prog.globalNamed name=some g) (h:W.var? Tryd.prog name=some cs):∃t fr,W.heap[g]? =some (.cells cs t fr):=by
 simp only [World.var?,hg,Option.bind_some] at h
 split at h
 · rename_i c t fr hb
   injection h with h
   subst h
   exact ⟨t,fr,hb⟩
 · cases h
theorem Di {W:World} (hs:W.ShapedOpen Tryd.prog) (h:laidMetH Tryd.prog kU W):∀e∈Tabs.l,∃cs ty fr,W.heap[e.1]? =some (.cells cs ty fr)∧e.2 cs:=by
 rw [MakeChecks.laidMetH_plain _ _ _ (by kernel_rfl)] at h
 obtain ⟨ps,⟨g0,t0,cs0,f0,p0,q0,KX,VK,hv0,hd0,⟨g1,t1,K2,f1,p1,q1,K8,VL,hv1,hd1,⟨g2,t2,SH,f2,p2,q2,HO,UE,uF,yY,⟨g3,t3,VM,f3,p3,q3,VN,VO,Qi,Qr,⟨g4,t4,SI,f4,p4,q4,UH,UI,UJ,UL,⟨g5,t5,SJ,f5,p5,q5,UM,UN,UO,UP,_,_⟩,_⟩,_⟩,_⟩,_⟩,_⟩,_⟩:=h
 intro e he
 simp only [Tabs.l,List.mem_cons,List.mem_nil_iff,or_false] at he
 rcases he with rfl|rfl|rfl|rfl
 · obtain ⟨cs,hh,hsz, -⟩:=hs.1 0 #[.int .i64 0] 3 (of_decide_eq_true (by kernel_rfl)) (by kernel_rfl)
   obtain ⟨m,hm⟩:=cell_of_shapedOpen_int (g:=0) (t:=3) (k:= .i64) (zero:= #[.int .i64 0]) hs (of_decide_eq_true (by kernel_rfl)) (by kernel_rfl) rfl (by kernel_rfl) (by kernel_rfl) (by kernel_rfl)
   refine ⟨cs,_,_,hh,m, ?_⟩
   have h1:cs.size=1:=hsz
   apply Array.ext
   · exact h1
   · intro i hi _
     have:i=0:=by omega
     subst this
     simpa [World.cell?,hh,h1] using hm
 · have hg:Tryd.prog.globalNamed "internal/strconv.uint64pow10" =some 1:=by kernel_rfl
   obtain rfl:=Option.some.inj (hg.symm.trans HO)
   obtain rfl:=Option.some.inj ((show (Tryd.prog.globals[1]?).map (·.type)=some 136 by kernel_rfl).symm.trans UE)
   have hc:SH.toList=Lib.pow10Tab.map fun z=>Value.int .u64 z:=Lib.cells_of_tab (n:=20) (e:=122) (k:= .u64) Tryd.underlying136 (by kernel_rfl) (by kernel_rfl) (by kernel_rfl) yY
   obtain ⟨t,fr,hb⟩:=oM hg uF
   refine ⟨SH,t,fr,hb, ?_⟩
   simp only [←hc,Array.toArray_toList]
 · have hg:Tryd.prog.globalNamed "strconv.ErrSyntax" =some 2:=by kernel_rfl
   obtain rfl:=Option.some.inj (hg.symm.trans UM)
   obtain rfl:=Option.some.inj ((show (Tryd.prog.globals[2]?).map (·.type)=some 112 by kernel_rfl).symm.trans UN)
   obtain ⟨ev,he,hev⟩:=vQ Tryd.underlying112 UP
   obtain ⟨t,fr,hb⟩:=oM hg UO
   exact ⟨SJ,t,fr,hb,ev,by rw [←Array.toArray_toList (xs:=SJ),he],hev⟩
 · have hg:Tryd.prog.globalNamed "strconv.ErrRange" =some 3:=by kernel_rfl
   obtain rfl:=Option.some.inj (hg.symm.trans UH)
   obtain rfl:=Option.some.inj ((show (Tryd.prog.globals[3]?).map (·.type)=some 112 by kernel_rfl).symm.trans UI)
   obtain ⟨ev,he,hev⟩:=vQ Tryd.underlying112 UL
   obtain ⟨t,fr,hb⟩:=oM hg UJ
   exact ⟨SI,t,fr,hb,ev,by rw [←Array.toArray_toList (xs:=SI),he],hev⟩
section
variable {H:Type} {enc:TypeId×Value→H}
theorem ru {a:Assume} {C:Checked} {os:Os} {f:FuncId} {fn:Func} {s:ChangeSpec} {conds:List PathCond} {apart fresh handsOn again:Bool} {X:World→Array Value→Prop}
 (hX:∀(w w':World) (args:Array Value),w.heap=w'.heap→X w args→X w' args)
 (own:ownKnob C.prog.godebug=none) (started:os.Started) (noInit:C.prog.inits.idxOf? f=none) (hfn:C.prog.funcs[f]? =some fn)
 (witness:∃(w:World) (tape:Tape) (i:Input),w.os=os∧(w.forCall tape i).Shaped C.prog∧i.vars=[]∧Input.okWide C.prog (w.forCall tape i) .any w.heap.size f i∧
  ((s.pre enc C.prog fn conds apart (w.forCall tape i).memory i.args∧X (w.forCall tape i).memory i.args)∧sizedMet enc C.prog fn (OpenSpec.ofChange s) apart (w.forCall tape i).memory i.args)∧a.holds C.prog (lone (Frame.enter C.prog f i.args .normal) [] (w.forCall tape i)))
 (contract:∀(W:World) (base:Nat) (args:Array Value) (ds gs:List (DataW H)) (before:List MemPlace),
  (∀(j:Nat) t v,fn.params[j]? =some t→args[j]? =some v→Value.okWide C.prog W .any base t v)→
  DataW.Whole enc C.prog fn.params.toList s.vars apart W args.toList ds gs before→W.ShapedOpen C.prog→X W args→
  Calls C.prog f args W fun e W'=>∃v,e= .returned v∧s.post enc C.prog fn apart fresh handsOn again W args v W'):
 ReturnsInHanded a C os f .any (fun w args=>(s.pre enc C.prog fn conds apart w args∧X w args)∧sizedMet enc C.prog fn (OpenSpec.ofChange s) apart w args) (s.post enc C.prog fn apart fresh handsOn again):=by
 refine returnsInHanded_of_calls own started noInit witness ?_
 rintro w tape i - MQ - ⟨-, -, -,UQ,SK, -, -, -, -,PS⟩ ⟨⟨⟨ds,gs,before,MR, -⟩,hx⟩, -⟩ -
 obtain rfl:UQ=fn:=Option.some.inj (SK.symm.trans hfn)
 refine (contract (w.forCall tape i) _ i.args ds gs before PS (DataW.Whole.of_heap (w':=w.forCall tape i) (by rfl) MR) MQ (hX _ _ _ (by rfl) hx)).mono ?_
 rintro e W' ⟨v,rfl,hp⟩
 exact ChangeSpec.post_blind hp
end
theorem SL {P:Program} {W:World} {r:Reach} {base:Nat} {t:TypeId} {k:IntKind} (ht:P.underlying t=some (.int k)) {C:Nat→List Value} {γ:List Nat} {x:Int} {v:Value} (hv:VR C γ (.int k x) v) (h:Value.okWide P W r base t v):k.has x:=by
 obtain rfl:=hv.bK
 unfold Value.okWide at h
 rw [ht] at h
 unfold Cell.okWide Cell.ok at h
 rw [ht] at h
 exact h.2
end Go.Proofs.YtfnnmecilcnloaaDoor
end
section
namespace Go.Proofs.YtfnnmecilcnloaaDoor
open Go.ChangeShapes Go.WideShapes Go.ChangeAt Go.RowKit Go.Am Go.Proofs.ct
set_option maxRecDepth 100000 in
theorem ry (os:Os) (started:os.Started) (H:Type) (enc:TypeId×Value→H):
 ReturnsInHanded {} Tryd.checked os 13 .any (fun w args=>(Rows.headHopsSpec.pre enc Tryd.prog Tryd.f13 [] false w args∧laidMetH Tryd.prog kU w)∧sizedMet enc Tryd.prog Tryd.f13 (OpenSpec.ofChange Rows.headHopsSpec) false w args) (Rows.headHopsSpec.post enc Tryd.prog Tryd.f13 false true false false):=by
 refine ru (C:=Tryd.checked) (X:=fun w _=>laidMetH Tryd.prog kU w) (fun _ _ _ hh h=>h.of_heap hh) PR.own started (by kernel_rfl) Tryd.func13
  (ChangeSpec.witness_shaped (enc:=enc) (C:=Tryd.checked) (os:=os) (X:=fun w _=>laidMetH Tryd.prog kU w) false (oL os) #[.slice none 0 0, .string ⟨#[]⟩, .string ⟨#[]⟩, .int .i64 0] 8 rfl (yw os _) (by kernel_rfl) (by kernel_rfl) (by kernel_rfl) (G1 os _)) ?_
 intro W base args ds gs before PT hW hS hL
 have hval:∀(j:Nat) t v,Tryd.f13.params[j]? =some t→args[j]? =some v→Value.okWide Tryd.prog W .any base t v:=PT
 have SM:=hW
 obtain ⟨p,q,UR,hV,rfl,hfz,hnd⟩:=hW
 have hA:DataW.TrodAll enc Tryd.prog W 0 (fun _=>true) true Tryd.f13.params.toList args.toList ds p:=UR
 have UT:=hA
 rw [Tryd.params13] at hA hval
 obtain ⟨vs,hvs⟩:∃vs,vs=args.toList:=⟨_,rfl⟩
 rw [←hvs] at hA
 obtain ⟨v0,VP,d0,VQ,p0,q0,e0,rfl,rfl,h0,hA⟩:=trodAll_cons hA
 obtain ⟨v1,VS,d1,Tq,p1,q1,e1,rfl,rfl,h1,hA⟩:=trodAll_cons hA
 obtain ⟨v2,VT,d2,Qp,p2,q2,e2,rfl,rfl,h2,hA⟩:=trodAll_cons hA
 obtain ⟨v3,VU,d3,VV,p3,q3,e3,rfl,rfl,h3,hA⟩:=trodAll_cons hA
 obtain ⟨e4,rfl,rfl⟩:=trodAll_nil hA
 have hargs:args= #[v0,v1,v2,v3]:=by
  apply Array.ext';rw [←hvs,e0,e1,e2,e3,e4]
 subst hargs
 obtain ⟨rfl,rfl⟩:=trodVars_none hV
 obtain ⟨x0,a0⟩:=Op.arg1 (f:=(fun xs=>AV.sl .n 1 (ml b8 xs))) (PN (e:=5) (k:=1) (f:=b8) (by kernel_rfl) (by kernel_rfl) (by decide) (PM (by kernel_rfl)) (fun _=>rfl)) (fun _=>rfl) (fun cs=>G0 (e:=5) (by kernel_rfl) cs) (hval 0 26 v0 rfl rfl) h0
 obtain ⟨x1,a1⟩:=Op.arg1 (f:=AV.str) (D7 (by kernel_rfl)) (fun _=>rfl) (fun cs=>uB (by kernel_rfl) cs) (hval 1 9 v1 rfl rfl) h1
 obtain ⟨x2,a2⟩:=Op.arg1 (f:=AV.str) (D7 (by kernel_rfl)) (fun _=>rfl) (fun cs=>uB (by kernel_rfl) cs) (hval 2 9 v2 rfl rfl) h2
 obtain ⟨x3,a3⟩:=Op.arg1 (f:=(vK .i64)) (MP (by kernel_rfl)) (fun _=>rfl) (fun cs=>Dh (k:= .i64) (by kernel_rfl) cs) (hval 3 3 v3 rfl rfl) h3
 have hlt:∀x∈p0++(p1++(p2++(p3++([])))),x.block<W.heap.size:=fun x hx=>SM.lt x (by simpa using hx)
 obtain ⟨F,hF⟩:=vt x0 x1 x2 x3
 refine ((oK (H0:=[]) hF).row (vs:= #[v0,v1,v2,v3]) (Di hS hL) rfl ?_).mono ?_
 · intro i x hi
   rcases i with _|_|_|_|i
   · simp at hi;subst hi;exact ⟨a0,TC.enc (by rfl) _,rfl⟩
   · simp at hi;subst hi;exact ⟨a1,TC.enc (by rfl) _,rfl⟩
   · simp at hi;subst hi;exact ⟨a2,TC.enc (by rfl) _,rfl⟩
   · simp at hi;subst hi;exact ⟨a3,TC.enc (by rfl) _,rfl⟩
   · simp at hi
 · rintro e W' ⟨r,v,aj,γ',C',rfl,⟨rfl,rfl⟩,hv,hb⟩
   have hv:=hv.c7
   subst hv
   refine ⟨_,rfl,_,_,_,[],p0++(p1++(p2++(p3++([])))),[],SM, ?_, ?_, ?_,hb.frame _,fun h=>by cases h⟩
   · exact trodAll_mk1 (shut_bool (by kernel_rfl) true)
   · exact uC PR.laidOut hb (of_decide_eq_true (by kernel_rfl)) UT hlt
   · exact rfl
theorem sy:Rows.HeadHopsSaid:=
 OpenClaim.holds_of_wide 13 Tryd.f13 rfl rfl rfl rfl rfl rfl rfl ⟨rfl,rfl,rfl,rfl,rfl⟩ rfl rfl rfl rfl rfl (by kernel_rfl) Tryd.func13 (by kernel_rfl)
  (of_decide_eq_true (by kernel_rfl)) (by unfold Func.isWrapper;first|(rw [if_pos (by decide+kernel)];kernel_rfl)|(rw [if_neg (by decide+kernel)];exact ⟨rfl,rfl⟩))
  (fun os started H enc _=>ry os started H enc)
theorem headHops_tied:Rows.HeadHopsCardSaid:=
 Claim7.holds_tied_plain_at .later [] [.data, .data, .data, .data, .sentinel, .sentinel, .pinned] true Rows.headHopsCard.stood.harness true
  sy (fun _ h=>by cases h) (by kernel_rfl) (fun _ h=>by cases h) headHops_row_tie rfl ⟨rfl,rfl⟩ (by kernel_rfl) rfl
  (fun f fn hf hfn=>by
   obtain rfl:f=13:=Option.some.inj ((show Tryd.prog.funcNamed Rows.headHopsRow.func=some 13 by kernel_rfl).symm.trans hf) |>.symm
   obtain rfl:fn=Tryd.f13:=(Option.some.inj (Tryd.func13.symm.trans hfn)).symm
   exact ⟨by kernel_rfl,fun j t ht=>by
    rw [Tryd.params13] at ht
    have hm:t∈[26,9,9,3]:=by have:=Array.mem_of_getElem? ht;simpa using this
    have hall:([26,9,9,3].all fun u=> !Tryd.prog.wantsStandIn u)=true:=by kernel_rfl
    exact (show Tryd.prog.wantsStandIn t=false by simpa using List.all_eq_true.1 hall t hm)⟩)
  (by kernel_rfl)
end Go.Proofs.YtfnnmecilcnloaaDoor
end
