/- What the abstract stores say of the machine's memory. No condition. -/
import Derived.Test.YtmkkljbfmdngfaaGreatDoorB1
set_option linter.all false
namespace Go.Proofs.YtmkkljbfmdngfaaGreatDoor
namespace B
open Go.RowKit
theorem Addr.add_add (a:Addr) (h:a.spot=none) (i j:Nat) :(a.add i).add j=a.add (i+j):=by
 cases a;simp only at h;subst h
 unfold Addr.add
 by_cases h1:i=0<;>by_cases h2:j=0<;>simp [h1,h2,Nat.add_assoc]
theorem Addr.add_spot (a:Addr) (h:a.spot=none) (i:Nat) :(a.add i).spot=none:=by
 unfold Addr.add;split<;>simp [h]
theorem Addr.add_lit' (g o i:Nat) :(⟨g,o,none⟩ :Addr).add i= ⟨g,o+i,none⟩:=by
 unfold Addr.add;split<;>simp_all
theorem Addr.eq_lit (a:Addr) (h:a.spot=none) :a= ⟨a.block,a.off,none⟩:=by cases a;simp_all
abbrev Froz:=Addr→Option Value
inductive Rep (Γ:Froz) :D→Value→Prop
 | bool (b:Bool) :Rep Γ (.bool b) (.bool b)
 | int (k:IntKind) (n:Int) :Rep Γ (.int k n) (.int k n)
 | str (s:Bytes) :Rep Γ (.str s) (.string ⟨s.toArray⟩)
 | nilp:Rep Γ .nilp (.pointer none)
 | nils (sz:Nat) :Rep Γ (.nils sz) (.slice none 0 0)
 | fn (f:Nat) :Rep Γ (.fn (some f)) (.func (.func f) #[] #[])
 | nofn:Rep Γ (.fn none) .nilFunc
 | nil (sz:Nat) :Rep Γ (.slice sz []) (.slice none 0 0)
 | nil0 (sz:Nat) (a:Addr) :Rep Γ (.slice sz []) (.slice (some a) 0 0)
 | slice (sz:Nat) (l:List D) (a:Addr) (c:Nat) (vals:Nat→Value) (hs:a.spot=none) (hc:l.length≤c) (hz: ∀x∈l,x.cells.length=sz)
   (hf: ∀d∈flatten l,d.flat=true) (hv: ∀(i:Nat) (d:D),(flatten l)[i]? =some d→Γ (a.add i) =some (vals i))
   (hr: ∀(i:Nat) (d:D),(flatten l)[i]? =some d→Rep Γ d (vals i)) :Rep Γ (.slice sz l) (.slice (some a) l.length c)
 | agg (l:List D) (vs:List Value) (hl:l.length=vs.length) (hf: ∀d∈l,d.flat=true)
   (hr: ∀(i:Nat) (d:D) (v:Value),l[i]? =some d→vs[i]? =some v→Rep Γ d v) :Rep Γ (.agg l) (.agg vs.toArray)
def Le (Γ Γ':Froz) :Prop:=∀a v,Γ a=some v→Γ' a=some v
theorem Le.refl (Γ:Froz) :Le Γ Γ:=fun _ _ h=>h
theorem Le.trans {Γ Γ' Γ'':Froz} (h:Le Γ Γ') (k:Le Γ' Γ'') :Le Γ Γ'':=fun a v x=>k a v (h a v x)
theorem Rep.mono {Γ Γ':Froz} (h:Le Γ Γ') {d:D} {v:Value} (r:Rep Γ d v) :Rep Γ' d v:=by
 induction r with
 | bool b=>exact .bool b
 | int k n=>exact .int k n
 | str s=>exact .str s
 | nilp=>exact .nilp
 | nils z=>exact .nils z
 | fn f=>exact .fn f
 | nofn=>exact .nofn
 | nil sz=>exact .nil sz
 | nil0 sz a=>exact .nil0 sz a
 | slice sz l a c vals hs hc hz hf hv hr ih=>exact .slice sz l a c vals hs hc hz hf (fun i d hd=>h _ _ (hv i d hd)) ih
 | agg l vs hl hf hr ih=>exact .agg l vs hl hf ih
theorem Rep.one {Γ:Froz} {d:D} {v:Value} (r:Rep Γ d v) (h:d.flat=true) :v.oneCell'=true:=by
 cases r<;>first | rfl | simp [D.flat] at h
theorem Rep.cells1 {Γ:Froz} {d:D} {v:Value} (r:Rep Γ d v) (h:d.flat=true) :v.cells= #[v]:=by
 cases r<;>first | rfl | simp [D.flat] at h
theorem Rep.norm1 {Γ:Froz} {d:D} {v:Value} (r:Rep Γ d v) :Rep Γ d.norm1 v:=by
 cases r with
 | nils z=>exact .nil z
 | fn f=>exact .fn f
 | nofn=>exact .nofn
 | bool b=>exact .bool b
 | int k n=>exact .int k n
 | str s=>exact .str s
 | nilp=>exact .nilp
 | nil sz=>exact .nil sz
 | nil0 sz a=>exact .nil0 sz a
 | slice sz l a c vals hs hc hz hf hv hr=>exact .slice sz l a c vals hs hc hz hf hv hr
 | agg l vs hl hf hr=>exact .agg l vs hl hf hr
theorem norm1_flat {d:D}:d.norm1.flat=d.flat:=by cases d<;>rfl
theorem Rep.norm {Γ:Froz} {d:D} {v:Value} (r:Rep Γ d v) :Rep Γ d.norm v:=by
 cases r with
 | nils z=>exact .nil z
 | fn f=>exact .fn f
 | nofn=>exact .nofn
 | bool b=>exact .bool b
 | int k n=>exact .int k n
 | str s=>exact .str s
 | nilp=>exact .nilp
 | nil sz=>exact .nil sz
 | nil0 sz a=>exact .nil0 sz a
 | slice sz l a c vals hs hc hz hf hv hr=>exact .slice sz l a c vals hs hc hz hf hv hr
 | agg l vs hl hf hr=>
  refine .agg _ vs (by simpa using hl) (fun d hd=> ?_) fun i d v hd hv=> ?_
  ·obtain ⟨x,hx,rfl⟩:=List.mem_map.1 hd
   rw [norm1_flat];exact hf x hx
  ·simp only [List.getElem?_map,Option.map_eq_some_iff] at hd
   obtain ⟨x,hx,rfl⟩:=hd
   exact (hr i x v hx hv).norm1
theorem flatten_length {l:List D} {sz:Nat} (h: ∀x∈l,x.cells.length=sz) :(flatten l).length=l.length*sz:=by
 induction l with
 | nil=>simp [flatten]
 | cons x r ih=>
  have h1:=h x (by simp)
  have h2:=ih fun y hy=>h y (by simp [hy])
  simp only [flatten,List.flatMap_cons,List.length_append,List.length_cons] at*
  rw [h1,h2,Nat.add_mul];omega
theorem flatten_append (l m:List D) :flatten (l++m) =flatten l++flatten m:=by simp [flatten]
theorem flatten_get {l:List D} {sz:Nat} (h: ∀x∈l,x.cells.length=sz) : ∀(j k:Nat),k<sz→(flatten l)[j*sz+k]? =(l[j]?).bind fun x=>x.cells[k]? :=by
 induction l with
 | nil=>intro j k hk;simp [flatten]
 | cons x r ih=>
  intro j k hk
  have h1:=h x (by simp)
  have h2:=ih fun y hy=>h y (by simp [hy])
  cases j with
  | zero=>
   simp only [flatten,List.flatMap_cons,Nat.zero_mul,Nat.zero_add,List.getElem?_cons_zero,Option.bind_some]
   rw [List.getElem?_append_left (by omega)]
  | succ j=>
   have:=h2 j k hk
   simp only [flatten,List.flatMap_cons,List.getElem?_cons_succ] at*
   rw [List.getElem?_append_right (by rw [h1,Nat.add_mul];omega),←this]
   congr 1
   rw [h1,Nat.add_mul];omega
theorem flatten_take {l:List D} {sz:Nat} (h: ∀x∈l,x.cells.length=sz) (j:Nat) :flatten (l.take j) =(flatten l).take (j*sz):=by
 induction l generalizing j with
 | nil=>simp [flatten]
 | cons x r ih=>
  have h1:=h x (by simp)
  cases j with
  | zero=>simp [flatten]
  | succ j=>
   have h2:=ih (fun y hy=>h y (by simp [hy])) j
   simp only [flatten,List.flatMap_cons,List.take_succ_cons] at*
   have e:x.cells.length≤(j+1) *sz:=by rw [h1,Nat.add_mul];omega
   rw [h2,List.take_append,h1,List.take_of_length_le e]
   congr 2
   rw [Nat.add_mul];omega
theorem flatten_drop {l:List D} {sz:Nat} (h: ∀x∈l,x.cells.length=sz) (j:Nat) :flatten (l.drop j) =(flatten l).drop (j*sz):=by
 induction l generalizing j with
 | nil=>simp [flatten]
 | cons x r ih=>
  have h1:=h x (by simp)
  cases j with
  | zero=>simp [flatten]
  | succ j=>
   have h2:=ih (fun y hy=>h y (by simp [hy])) j
   simp only [flatten,List.flatMap_cons,List.drop_succ_cons] at*
   have e:x.cells.length≤(j+1) *sz:=by rw [h1,Nat.add_mul];omega
   rw [h2,List.drop_append,h1,List.drop_of_length_le e,List.nil_append]
   congr 1
   rw [Nat.add_mul];omega
inductive Role where
 | plain
 | box (b:Nat)
 | own (p:Place) (i:Nat)
 | row (k sz cap:Nat)
structure RepF (Γ:Froz) (sz:Nat) (l:List D) (vs:List Value) :Prop where
 uni: ∀x∈l,x.cells.length=sz
 flat: ∀d∈flatten l,d.flat=true
 len:(flatten l).length=vs.length
 rep: ∀(i:Nat) d u,(flatten l)[i]? =some d→vs[i]? =some u→Rep Γ d u
theorem RepF.mono {Γ Γ':Froz} (h:Le Γ Γ') {sz:Nat} {l:List D} {vs:List Value} (r:RepF Γ sz l vs) :RepF Γ' sz l vs:=
 ⟨r.uni,r.flat,r.len,fun i d u h1 h2=>(r.rep i d u h1 h2).mono h⟩
theorem RepF.vs_len {Γ:Froz} {sz:Nat} {l:List D} {vs:List Value} (r:RepF Γ sz l vs) :vs.length=l.length*sz:=by rw [←r.len];exact flatten_length r.uni
theorem RepF.append {Γ:Froz} {sz:Nat} {l m:List D} {vs us:List Value} (r:RepF Γ sz l vs) (q:RepF Γ sz m us) :RepF Γ sz (l++m) (vs++us):=by
 refine ⟨fun x hx=> ?_,fun d hd=> ?_, ?_,fun i d u h1 h2=> ?_⟩
 ·rcases List.mem_append.1 hx with h | h;exact r.uni x h;exact q.uni x h
 ·rw [flatten_append] at hd;rcases List.mem_append.1 hd with h | h;exact r.flat d h;exact q.flat d h
 ·rw [flatten_append,List.length_append,List.length_append,r.len,q.len]
 ·rw [flatten_append] at h1
  by_cases hi:i<vs.length
  ·rw [List.getElem?_append_left (by rw [r.len];exact hi)] at h1
   rw [List.getElem?_append_left hi] at h2
   exact r.rep i d u h1 h2
  ·rw [List.getElem?_append_right (by rw [r.len];omega),r.len] at h1
   rw [List.getElem?_append_right (by omega)] at h2
   exact q.rep _ d u h1 h2
theorem RepF.one {Γ:Froz} {sz:Nat} {l:List D} {vs:List Value} (r:RepF Γ sz l vs) : ∀u∈vs,u.oneCell'=true:=by
 intro u hu
 obtain ⟨i,hi,rfl⟩:=List.mem_iff_getElem.1 hu
 have hi':i<(flatten l).length:=by rw [r.len];exact hi
 exact (r.rep i _ _ (List.getElem?_eq_getElem hi') (List.getElem?_eq_getElem hi)).one (r.flat _ (List.getElem_mem hi'))
def OkFz (fz:Nat×Nat) (n:Nat) :Prop:=fz=(0,0)∨n≤fz.1
def rowS (w:World) (e:TypeId) (size:Nat) (v:Value) (n:Nat) (xs:List Value) :Prop:=
 xs.length=n*size∧
 ((v= .slice none 0 0∧n=0)∨
  ∃g cap cur,v= .slice (some ⟨g,0,none⟩) n cap∧(∃fz,OkFz fz cur.size∧w.heap[g]? =some (.cells cur e fz))∧n≤cap∧cap≤maxLen∧cur.size=cap*size∧cur.toList.take (n*size) =xs)
theorem rowS_nil (w:World) (e:TypeId) (size:Nat) :rowS w e size (.slice none 0 0) 0 []:=⟨by simp, .inl ⟨rfl,rfl⟩⟩
def Own (Γ:Froz) (ρ:Nat→Role) (w:World) (p:Place) (i sz:Nat) (l:List D) (v:Value) :Prop:=
 (∃e vs,rowS w e sz v l.length vs∧RepF Γ sz l vs∧∀g,v.ownBlock=some g→ρ g= .own p i∧∀o,Γ ⟨g,o,none⟩ =vs[o]?)∨
 (l= []∧∃a:Addr,v= .slice (some a) 0 0)
def Chan (Γ:Froz) (ρ:Nat→Role) (w:World) (p:Place) (i cap:Nat) (l:List D) (v:Value) :Prop:=
 ∃(g:Nat) (buf:Array Value) (s r:Nat),v= .chan (some g)∧w.heap[g]? =some (.chan cap buf false s r false)∧ρ g= .own p i∧(∀o,Γ ⟨g,o,none⟩ =none)∧buf.size=l.length∧
  ∀(k:Nat) d u,l[k]? =some d→buf[k]? =some u→Rep Γ d u
def Bld (Γ:Froz) (ρ:Nat→Role) (w:World) (p:Place) (i e:Nat) (f:Bool) (l:Bytes) (v:Value) :Prop:=
 (f=true→v= .slice none 0 0)∧w.ownsRowF 0 e 1 v l.length (Lib.byteCells l)∧∀g,v.ownBlock=some g→ρ g= .own p i∧∀o,Γ ⟨g,o,none⟩ =none
def RowH (ρ:Nat→Role) (bl:Nat→Nat) (sz k o n:Nat) (v:Value) :Prop:=
 (n=0∧(v= .slice none 0 0∨∃a:Addr,v= .slice (some a) 0 0))∨
 ∃c cap,v= .slice (some ⟨bl k,o*sz,none⟩) n c∧n≤c∧ρ (bl k) = .row k sz cap∧o+c=cap
def RowA (ρ:Nat→Role) (bl:Nat→Nat) (sz k i off:Nat) (v:Value) :Prop:=
 v= .pointer (some ⟨bl k,i*sz+off,none⟩)∧∃cap,ρ (bl k) = .row k sz cap∧i<cap
def RepC1 (Γ:Froz) (ρ:Nat→Role) (bl:Nat→Nat) (w:World) (p:Place) (i:Nat) :CV→Value→Prop
 | .d x,v=>Rep Γ x v
 | .own sz l,v=>Own Γ ρ w p i sz l v
 | .nils,v=>v= .slice none 0 0
 | .ptr b o,v=>v= .pointer (some ⟨bl b,o,none⟩)
 | .sp b _,v=>v= .pointer none∨v= .pointer (some ⟨bl b,0,none⟩)
 | .ep cs,v=>∃a:Addr,v= .pointer (some a)∧a.spot=none∧(∀d∈cs,d.flat=true)∧∀k d,cs[k]? =some d→∃u,Γ (a.add k) =some u∧Rep Γ d u
 | .fn f caps,v=>v= .func (.func f) #[] (caps.map fun b=>Value.pointer (some ⟨bl b,0,none⟩)).toArray
 | .junk,_=>True
 | .line cap l,v=>Chan Γ ρ w p i cap l v
 | .bld e f l,v=>Bld Γ ρ w p i e f l v
 | .rs sz k o n,v=>RowH ρ bl sz k o n v
 | .ea sz k i off,v=>RowA ρ bl sz k i off v
 | .arr _ _,_=>False
 | .tup _,_ | .agg _,_=>False
def RepL (Γ:Froz) (ρ:Nat→Role) (bl:Nat→Nat) (w:World) (p:Place) (cs:List CV) (vs:List Value) :Prop:=
 cs.length=vs.length∧∀(i:Nat) c v,cs[i]? =some c→vs[i]? =some v→RepC1 Γ ρ bl w p i c v
def RepC (Γ:Froz) (ρ:Nat→Role) (bl:Nat→Nat) (w:World) (p:Place) :CV→Value→Prop
 | .tup l,v=>∃vs:List Value,v= .tuple vs.toArray∧RepL Γ ρ bl w p l vs
 | .agg l,v=>∃vs:List Value,v= .agg vs.toArray∧RepL Γ ρ bl w p l vs
 | c,v=>RepC1 Γ ρ bl w p 0 c v
def CV.ment1 (b:Nat) :CV→Prop
 | .ptr k _=>k=b
 | .sp k _=>k=b
 | .rs _ k _ _=>k=b
 | .ea _ k _ _=>k=b
 | .fn _ caps=>b∈caps
 | _=>False
def CV.ment (b:Nat) :CV→Prop
 | .tup l=>∃c∈l,c.ment1 b
 | .agg l=>∃c∈l,c.ment1 b
 | c=>c.ment1 b
def RowB (Γ:Froz) (ρ:Nat→Role) (w:World) (k g sz:Nat) (l:List D) :Prop:=
 l= []∨∃arr e fz cap,w.heap[g]? =some (.cells arr e fz)∧ρ g= .row k sz cap∧l.length≤cap∧RepF Γ sz l (arr.toList.take (l.length*sz))
structure SR (Γ:Froz) (ρ:Nat→Role) (bl:Nat→Nat) (st:St) (tmps:Array Value) (w:World) :Prop where
 agree: ∀a v,Γ a=some v→w.cell? a=some v
 len:tmps.size=st.s.length
 slots: ∀i c,st.s[i]? =some c→∃v,tmps[i]? =some v∧RepC Γ ρ bl w (.s i) c v
 boxes: ∀b cs,st.bx b=some cs→rowOf cs=none→∃arr e,w.heap[bl b]? =some (.cells arr e (0,0))∧ρ (bl b) = .box b∧RepL Γ ρ bl w (.b b) cs arr.toList∧∀o,Γ ⟨bl b,o,none⟩ =none
 rows: ∀b cs z l,st.bx b=some cs→rowOf cs=some (z,l)→RowB Γ ρ w b (bl b) z l
 rowk: ∀g b z cap,ρ g= .row b z cap→∃arr e fz,w.heap[g]? =some (.cells arr e fz)∧OkFz fz arr.size∧arr.size=cap*z∧cap≤maxLen∧∀o,Γ ⟨g,o,none⟩ =none
 closed: ∀p b,(st.get p).ment b→(st.bx b).isSome=true
 rho: ∀g,ρ g≠ .plain→g<w.heap.size
 gl:Le Gl Γ
 bty: ∀b k t cs,st.bx b=some cs→cs[0]? =some (.sp k t)→∃arr fz,w.heap[bl b]? =some (.cells arr t fz)
structure Fr0 (w0:World) (Γ0:Froz) (ρ0:Nat→Role) (w:World) (Γ:Froz) (ρ:Nat→Role) :Prop where
 le:Le Γ0 Γ
 size:w0.heap.size≤w.heap.size
 os:w.os=w0.os
 tape:w.tape=w0.tape
 output:w.output=w0.output
 block: ∀g,g<w0.heap.size→ρ0 g= .plain→w.heap[g]? =w0.heap[g]? ∧ρ g= .plain
 new: ∀a v,Γ a=some v→Γ0 a=some v∨w0.heap.size≤a.block∨ρ0 a.block≠ .plain
structure Fr (w0:World) (Γ0:Froz) (ρ0:Nat→Role) (w:World) (Γ:Froz) (ρ:Nat→Role) :Prop where
 le:Le Γ0 Γ
 size:w0.heap.size≤w.heap.size
 os:w.os=w0.os
 tape:w.tape=w0.tape
 output:w.output=w0.output
 block: ∀g,g<w0.heap.size→ρ0 g= .plain→w.heap[g]? =w0.heap[g]? ∧ρ g= .plain
 new: ∀a v,Γ a=some v→Γ0 a=some v∨w0.heap.size≤a.block∨ρ0 a.block≠ .plain
 row: ∀g b z cap,ρ0 g= .row b z cap→1000≤b→b<5000→ρ g= .row b z cap
theorem Fr.to0 {w0 w:World} {Γ0 Γ:Froz} {ρ0 ρ:Nat→Role} (h:Fr w0 Γ0 ρ0 w Γ ρ) :Fr0 w0 Γ0 ρ0 w Γ ρ:=⟨h.le,h.size,h.os,h.tape,h.output,h.block,h.new⟩
theorem Fr.refl (w:World) (Γ:Froz) (ρ:Nat→Role) :Fr w Γ ρ w Γ ρ:=⟨.refl _,Nat.le_refl _,rfl,rfl,rfl,fun _ _ h=>⟨rfl,h⟩,fun _ _ h=> .inl h,fun _ _ _ _ h _ _=>h⟩
theorem Fr.trans {w0 w1 w2:World} {Γ0 Γ1 Γ2:Froz} {ρ0 ρ1 ρ2:Nat→Role} (h:Fr w0 Γ0 ρ0 w1 Γ1 ρ1) (k:Fr w1 Γ1 ρ1 w2 Γ2 ρ2) :Fr w0 Γ0 ρ0 w2 Γ2 ρ2:=by
 refine ⟨h.le.trans k.le,Nat.le_trans h.size k.size,k.os.trans h.os,k.tape.trans h.tape,k.output.trans h.output,fun g hg hp=> ?_,fun a v ha=> ?_,fun g b z cap e hb h5=>k.row g b z cap (h.row g b z cap e hb h5) hb h5⟩
 ·obtain ⟨h1,h2⟩:=h.block g hg hp
  obtain ⟨k1,k2⟩:=k.block g (Nat.lt_of_lt_of_le hg h.size) h2
  exact ⟨k1.trans h1,k2⟩
 ·rcases k.new a v ha with h1 | h1 | h1
  ·exact h.new a v h1
  ·exact .inr (.inl (Nat.le_trans h.size h1))
  ·by_cases hl:w0.heap.size≤a.block
   ·exact .inr (.inl hl)
   ·exact .inr (.inr fun hp=>h1 (h.block _ (by omega) hp).2)
def GzOk (ρ:Nat→Role) (w:World) :Prop:=∃m,∀g row,GzRow m g=some row→ρ g= .plain∧∃t fz,w.heap[g]? =some (.cells row t fz)
theorem GzOk.fr {w0 w:World} {Γ0 Γ:Froz} {ρ0 ρ:Nat→Role} (h:GzOk ρ0 w0) (hf:Fr w0 Γ0 ρ0 w Γ ρ) :GzOk ρ w:=by
 obtain ⟨m,h⟩:=h
 refine ⟨m,fun g row hg=> ?_⟩
 obtain ⟨h1,t,fz,h2⟩:=h g row hg
 have hlt:g<w0.heap.size:=(Array.getElem?_eq_some_iff.1 h2).1
 obtain ⟨k1,k2⟩:=hf.block g hlt h1
 exact ⟨k2,t,fz,k1.trans h2⟩
theorem GzOk.role {w:World} {ρ ρ':Nat→Role} (h:GzOk ρ w) (hr: ∀g,ρ g= .plain→ρ' g= .plain) :GzOk ρ' w:=by
 obtain ⟨m,h⟩:=h
 exact ⟨m,fun g row hg=>⟨hr g (h g row hg).1,(h g row hg).2⟩⟩
end B
end Go.Proofs.YtmkkljbfmdngfaaGreatDoor
