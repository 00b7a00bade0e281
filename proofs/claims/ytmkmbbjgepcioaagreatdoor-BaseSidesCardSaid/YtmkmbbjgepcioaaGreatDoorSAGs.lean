/- An append to a row whose block holds nothing but such values; files that lie outside it. No statement of the seat is proved here. -/
import Derived.Test.YtmkmbbjgepcioaaGreatDoorSA15
import Derived.Lib.SmallJoins
namespace Go.Proofs.YtmkmbbjgepcioaaGreatDoor
open Go.RowKit
def AllC (w:World) (A:Option Addr) (φ:Value→Prop):Prop:=∀a,A=some a→∀(cur:Array Value) (e:TypeId) (fz:Nat×Nat),w.heap[a.block]? = some (.cells cur e fz)→∀v∈cur.toList,φ v
theorem AllC.nil_ (w:World) (φ:Value→Prop):AllC w none φ:=fun _ h=>by cases h
theorem AllC.same {w w':World} {A:Option Addr} {φ:Value→Prop} (h:AllC w A φ) (hk:∀a,A=some a→w'.heap[a.block]? = w.heap[a.block]?):AllC w' A φ:=fun a ha cur e fz hc=>h a ha cur e fz (by rw [←hk a ha];exact hc)
theorem ztf {w:World} {t e ty:TypeId} {bytes:Nat} (H:Elem Tryz.prog t e 1 bytes) {base:Nat} {A:Option Addr} {n c:Nat} {xs:List Value} (hown:Own w base e 1 A n c xs) {B:Nat} {ad:Addr} {m d:Nat} {news:List Value} (hm:0<m) (hr:ze w B 1 (some ad) m news) (h1:∀u∈news,u.oneCell'=true) (h63:n+m≤maxLen) (hbytes:(n+m)*bytes≤140737488355328) (hbase:base≤w.heap.size) {φ:Value→Prop} (hA:AllC w A φ) (hx:∀v∈xs,φ v) (hn:∀v∈news,φ v) (hz0:∀z,(Tryz.prog.info? e).bind (·.zero)=some z→φ (z.cells[0]!)) :∃A' c' w',(Builtin.append_ #[t,t] ty #[.slice A n c,.slice (some ad) m d]).run Tryz.prog w = .ok (.slice A' (n+m) c') w'∧Own w' base e 1 A' (n+m) c' (xs++news)∧Kept base [e] [] w w'∧(∀p,p<w.heap.size→NotB A n c p→w'.heap[p]? = w.heap[p]?∧NotB A' (n+m) c' p)∧AllC w' A' φ:=by
 obtain ⟨A',c',w',hrun,h2,h3,h4⟩:=zgR (ty:=ty) (d:=d) H hown hm hr h1 h63 hbytes hbase;refine ⟨A',c',w',hrun,h2,h3,h4,?_⟩;obtain ⟨ht,⟨i,z,hi,hz,hsize,hby,hzs⟩,hpos⟩:=H;have hφ0:φ (z.cells[0]!):=hz0 z (by rw [hi];exact hz);have mz:∀k v,v∈(Builtin.zeroCells z.cells k).toList→φ v:=by
  intro k v hv;unfold Builtin.zeroCells at hv;rw [Array.toList_map,List.mem_map] at hv;obtain ⟨j,_,rfl⟩:=hv;rw [hzs,Nat.mod_one];exact hφ0
 have hcells:∀j u,news[j]? = some u→w.cell? (ad.add j)=some u:=by
  obtain ⟨ad',h,_,hc⟩:=hr.2 hm;injection h with h;subst h;exact hc
 have hlen:news.length=m*i.size:=by rw [hsize];exact hr.1
 have new_:∀(cs:Array Value),(∀v∈cs.toList,φ v)→AllC (w.drew.alloc (.cells cs e)) (some ⟨w.heap.size,0,none⟩) φ:=fun cs hcs a ha cur e' fz hc v hv=>by
  injection ha with ha;subst ha;rw [show (⟨w.heap.size,0,none⟩:Addr).block=w.heap.size from rfl,show w.heap.size=w.drew.heap.size from rfl,heap_alloc_new w.drew _] at hc;injection hc with hc;injection hc with hc;subst hc;exact hcs v hv
 rcases hown.2 with ⟨e1,rfl⟩|⟨g,cap,cur,e1,hbg,hg,hnc,hcm,hcs,htake⟩
 · injection e1 with e1 _ e2;subst e1 e2;have hr':=run_append_nil (P:=Tryz.prog) w t ty e i z ht hi hz ad m d news hlen hcells hm (by simp only [maxLen] at h63;omega) (by rw [hby];simp only [Nat.zero_add] at hbytes;omega);rw [hrun] at hr';injection hr' with q1 q2;injection q1 with q1;subst q1 q2;refine new_ _ fun v hv=>?_;rw [Array.toList_append,List.mem_append] at hv
   rcases hv with hv|hv
   · exact hn v hv
   · exact mz _ v hv
 · injection e1 with e1 _ e2;subst e1 e2;by_cases hroom:n+m≤c
   · have hfit:n*i.size+news.length≤cur.size:=by rw [hlen,hcs,hsize,←Nat.add_mul];exact Nat.mul_le_mul_right _ hroom
     have hr':=run_append_room (P:=Tryz.prog) w t ty e i ht hi g n c cur hg ad m d news hlen hcells h1 hroom hfit;rw [hrun] at hr';injection hr' with q1 q2;injection q1 with q1;subst q1 q2;intro a ha cur' e' fz hc v hv;injection ha with ha;subst ha;rw [setRow_heap w g cur _ e _ hg] at hc;injection hc with hc;injection hc with hc;subst hc;have old:∀u∈cur.toList,φ u:=hA _ rfl cur e (0,0) hg;rw [List.append_assoc,List.mem_append,List.mem_append] at hv
     rcases hv with hv|hv|hv
     · exact old v (List.mem_of_mem_take hv)
     · exact hn v hv
     · exact old v (List.mem_of_mem_drop hv)
   · have holds:∀j u,xs[j]? = some u→w.cell? ((⟨g,0,none⟩:Addr).add j)=some u:=World.ownsRow.cells (g:=g) hown rfl;have hr':=run_append_grow (P:=Tryz.prog) w t ty e i z ht hi hz ⟨g,0,none⟩ n c xs (by rw [hsize];exact hown.1) holds ad m d news hlen hcells (by omega) (by simp only [maxLen] at h63;omega) (growslice_fits (by omega) (by rw [hby];exact hbytes));rw [hrun] at hr';injection hr' with q1 q2;injection q1 with q1;subst q1 q2;refine new_ _ fun v hv=>?_;rw [Array.toList_append,Array.toList_append,List.mem_append,List.mem_append] at hv
     rcases hv with (hv|hv)|hv
     · exact hx v hv
     · exact hn v hv
     · exact mz _ v hv
def isSl (v:Value):Prop:=∃a n c,v = .slice a n c
end Go.Proofs.YtmkmbbjgepcioaaGreatDoor
