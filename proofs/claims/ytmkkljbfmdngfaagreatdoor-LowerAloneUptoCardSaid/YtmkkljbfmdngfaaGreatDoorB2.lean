/- What the abstract stores say of the machine's memory. No condition. -/
import Derived.Test.YtmkkljbfmdngfaaGreatDoorB1
set_option linter.all false
namespace Go.Proofs.YtmkkljbfmdngfaaGreatDoor
namespace B
open Go.RowKit
theorem Addr.add_add (a:Addr) (h:a.spot=none) (i j:Nat) :(a.add i).add j=a.add (i+j):=by
 cases a;simp only at h;subst h
 unfold Addr.add
 by_cases h1:i=0<;>by_cases h2:j=0<;>simp [h1,h2,Nat.add_assoc]
theorem Addr.add_spot (a:Addr) (h:a.spot=none) (i:Nat) :(a.add i).spot=none:=by
 unfold Addr.add;split<;>simp [h]
theorem Addr.add_lit' (g o i:Nat) :(⟨g,o,none⟩ :Addr).add i= ⟨g,o+i,none⟩:=by
 unfold Addr.add;split<;>simp_all
theorem Addr.eq_lit (a:Addr) (h:a.spot=none) :a= ⟨a.block,a.off,none⟩:=by cases a;simp_all
abbrev Froz:=Addr→Option Value
inductive Rep (Γ:Froz) :D→Value→Prop
 | bool (b:Bool) :Rep Γ (.bool b) (.bool b)
 | int (k:IntKind) (n:Int) :Rep Γ (.int k n) (.int k n)
 | str (s:Bytes) :Rep Γ (.str s) (.string ⟨s.toArray⟩)
 | nilp:Rep Γ .nilp (.pointer none)
 | nils (sz:Nat) :Rep Γ (.nils sz) (.slice none 0 0)
 | fn (f:Nat) :Rep Γ (.fn (some f)) (.func (.func f) #[] #[])
 | nofn:Rep Γ (.fn none) .nilFunc
 | nil (sz:Nat) :Rep Γ (.slice sz []) (.slice none 0 0)
 | nil0 (sz:Nat) (a:Addr) :Rep Γ (.slice sz []) (.slice (some a) 0 0)
 | slice (sz:Nat) (l:List D) (a:Addr) (c:Nat) (vals:Nat→Value) (hs:a.spot=none) (hc:l.length≤c) (hz: ∀x∈l,x.cells.length=sz)
   (hf: ∀d∈flatten l,d.flat=true) (hv: ∀(i:Nat) (d:D),(flatten l)[i]? =some d→Γ (a.add i) =some (vals i))
   (hr: ∀(i:Nat) (d:D),(flatten l)[i]? =some d→Rep Γ d (vals i)) :Rep Γ (.slice sz l) (.slice (some a) l.length c)
 | agg (l:List D) (vs:List Value) (hl:l.length=vs.length) (hf: ∀d∈l,d.flat=true)
   (hr: ∀(i:Nat) (d:D) (v:Value),l[i]? =some d→vs[i]? =some v→Rep Γ d v) :Rep Γ (.agg l) (.agg vs.toArray)
def Le (Γ Γ':Froz) :Prop:=∀a v,Γ a=some v→Γ' a=some v
theorem Le.refl (Γ:Froz) :Le Γ Γ:=fun _ _ h=>h
theorem Le.trans {Γ Γ' Γ'':Froz} (h:Le Γ Γ') (k:Le Γ' Γ'') :Le Γ Γ'':=fun a v x=>k a v (h a v x)
theorem Rep.mono {Γ Γ':Froz} (h:Le Γ Γ') {d:D} {v:Value} (r:Rep Γ d v) :Rep Γ' d v:=by
 induction r with
 | bool b=>exact .bool b
 | int k n=>exact .int k n
 | str s=>exact .str s
 | nilp=>exact .nilp
 | nils z=>exact .nils z
 | fn f=>exact .fn f
 | nofn=>exact .nofn
 | nil sz=>exact .nil sz
 | nil0 sz a=>exact .nil0 sz a
 | slice sz l a c vals hs hc hz hf hv hr ih=>exact .slice sz l a c vals hs hc hz hf (fun i d hd=>h _ _ (hv i d hd)) ih
 | agg l vs hl hf hr ih=>exact .agg l vs hl hf ih
theorem Rep.one {Γ:Froz} {d:D} {v:Value} (r:Rep Γ d v) (h:d.flat=true) :v.oneCell'=true:=by
 cases r<;>first | rfl | simp [D.flat] at h
theorem Rep.cells1 {Γ:Froz} {d:D} {v:Value} (r:Rep Γ d v) (h:d.flat=true) :v.cells= #[v]:=by
 cases r<;>first | rfl | simp [D.flat] at h
theorem Rep.norm1 {Γ:Froz} {d:D} {v:Value} (r:Rep Γ d v) :Rep Γ d.norm1 v:=by
 cases r with
 | nils z=>exact .nil z
 | fn f=>exact .fn f
 | nofn=>exact .nofn
 | bool b=>exact .bool b
 | int k n=>exact .int k n
 | str s=>exact .str s
 | nilp=>exact .nilp
 | nil sz=>exact .nil sz
 | nil0 sz a=>exact .nil0 sz a
 | slice sz l a c vals hs hc hz hf hv hr=>exact .slice sz l a c vals hs hc hz hf hv hr
 | agg l vs hl hf hr=>exact .agg l vs hl hf hr
theorem norm1_flat {d:D}:d.norm1.flat=d.flat:=by cases d<;>rfl
theorem Rep.norm {Γ:Froz} {d:D} {v:Value} (r:Rep Γ d v) :Rep Γ d.norm v:=by
 cases r with
 | nils z=>exact .nil z
 | fn f=>exact .fn f
 | nofn=>exact .nofn
 | bool b=>exact .bool b
 | int k n=>exact .int k n
 | str s=>exact .str s
 | nilp=>exact .nilp
 | nil sz=>exact .nil sz
 | nil0 sz a=>exact .nil0 sz a
 | slice sz l a c vals hs hc hz hf hv hr=>exact .slice sz l a c vals hs hc hz hf hv hr
 | agg l vs hl hf hr=>
  refine .agg _ vs (by simpa using hl) (fun d hd=> ?_) fun i d v hd hv=> ?_
  ·obtain ⟨x,hx,rfl⟩:=List.mem_map.1 hd
   rw [norm1_flat];exact hf x hx
  ·simp only [List.getElem?_map,Option.map_eq_some_iff] at hd
   obtain ⟨x,hx,rfl⟩:=hd
   exact (hr i x v hx hv).norm1
theorem flatten_length {l:List D} {sz:Nat} (h: ∀x∈l,x.cells.length=sz) :(flatten l).length=l.length*sz:=by
 induction l with
 | nil=>simp [flatten]
 | cons x r ih=>
  have h1:=h x (by simp)
  have h2:=ih fun y hy=>h y (by simp [hy])
  simp only [flatten,List.flatMap_cons,List.length_append,List.length_cons] at*
  rw [h1,h2,Nat.add_mul];omega
theorem flatten_append (l m:List D) :flatten (l++m) =flatten l++flatten m:=by simp [flatten]
theorem flatten_get {l:List D} {sz:Nat} (h: ∀x∈l,x.cells.length=sz) : ∀(j k:Nat),k<sz→(flatten l)[j*sz+k]? =(l[j]?).bind fun x=>x.cells[k]? :=by
 induction l with
 | nil=>intro j k hk;simp [flatten]
 | cons x r ih=>
  intro j k hk
  have h1:=h x (by simp)
  have h2:=ih fun y hy=>h y (by simp [hy])
  cases j with
  | zero=>
   simp only [flatten,List.flatMap_cons,Nat.zero_mul,Nat.zero_add,List.getElem?_cons_zero,Option.bind_some]
   rw [List.getElem?_append_left (by omega)]
  | succ j=>
   have:=h2 j k hk
   simp only [flatten,List.flatMap_cons,List.getElem?_cons_succ] at*
   rw [List.getElem?_append_right (by rw [h1,Nat.add_mul];omega),←this]
   congr 1
   rw [h1,Nat.add_mul];omega
theorem flatten_take {l:List D} {sz:Nat} (h: ∀x∈l,x.cells.length=sz) (j:Nat) :flatten (l.take j) =(flatten l).take (j*sz):=by
 induction l generalizing j with
 | nil=>simp [flatten]
 | cons x r ih=>
  have h1:=h x (by simp)
  cases j with
  | zero=>simp [flatten]
  | succ j=>
   have h2:=ih (fun y hy=>h y (by simp [hy])) j
   simp only [flatten,List.flatMap_cons,List.take_succ_cons] at*
   have e:x.cells.length≤(j+1) *sz:=by rw [h1,Nat.add_mul];omega
   rw [h2,List.take_append,h1,List.take_of_length_le e]
   congr 2
   rw [Nat.add_mul];omega
theorem flatten_drop {l:List D} {sz:Nat} (h: ∀x∈l,x.cells.length=sz) (j:Nat) :flatten (l.drop j) =(flatten l).drop (j*sz):=by
 induction l generalizing j with
 | nil=>simp [flatten]
 | cons x r ih=>
  have h1:=h x (by simp)
  cases j with
  | zero=>simp [flatten]
  | succ j=>
   have h2:=ih (fun y hy=>h y (by simp [hy])) j
   simp only [flatten,List.flatMap_cons,List.drop_succ_cons] at*
   have e:x.cells.length≤(j+1) *sz:=by rw [h1,Nat.add_mul];omega
   rw [h2,List.drop_append,h1,List.drop_of_length_le e,List.nil_append]
   congr 1
   rw [Nat.add_mul];omega
inductive Role where
 | plain
 | box (b:Nat)
 | own (p:Place) (i:Nat)
 | row (k sz cap:Nat)
structure RepF (Γ:Froz) (sz:Nat) (l:List D) (vs:List Value) :Prop where
 uni: ∀x∈l,x.cells.length=sz
 flat: ∀d∈flatten l,d.flat=true
 len:(flatten l).length=vs.length
 rep: ∀(i:Nat) d u,(flatten l)[i]? =some d→vs[i]? =some u→Rep Γ d u
theorem RepF.mono {Γ Γ':Froz} (h:Le Γ Γ') {sz:Nat} {l:List D} {vs:List Value} (r:RepF Γ sz l vs) :RepF Γ' sz l vs:=
 ⟨r.uni,r.flat,r.len,fun i d u h1 h2=>(r.rep i d u h1 h2).mono h⟩
theorem RepF.vs_len {Γ:Froz} {sz:Nat} {l:List D} {vs:List Value} (r:RepF Γ sz l vs) :vs.length=l.length*sz:=by rw [←r.len];exact flatten_length r.uni
theorem RepF.append {Γ:Froz} {sz:Nat} {l m:List D} {vs us:List Value} (r:RepF Γ sz l vs) (q:RepF Γ sz m us) :RepF Γ sz (l++m) (vs++us):=by
 refine ⟨fun x hx=> ?_,fun d hd=> ?_, ?_,fun i d u h1 h2=> ?_⟩
 ·rcases List.mem_append.1 hx with h | h;exact r.uni x h;exact q.uni x h
 ·rw [flatten_append] at hd;rcases List.mem_append.1 hd with h | h;exact r.flat d h;exact q.flat d h
 ·rw [flatten_append,List.length_append,List.length_append,r.len,q.len]
 ·rw [flatten_append] at h1
  by_cases hi:i<vs.length
  ·rw [List.getElem?_append_left (by rw [r.len];exact hi)] at h1
   rw [List.getElem?_append_left hi] at h2
   exact r.rep i d u h1 h2
  ·rw [List.getElem?_append_right (by rw [r.len];omega),r.len] at h1
   rw [List.getElem?_append_right (by omega)] at h2
   exact q.rep _ d u h1 h2
theorem RepF.one {Γ:Froz} {sz:Nat} {l:List D} {vs:List Value} (r:RepF Γ sz l vs) : ∀u∈vs,u.oneCell'=true:=by
 intro u hu
 obtain ⟨i,hi,rfl⟩:=List.mem_iff_getElem.1 hu
 have hi':i<(flatten l).length:=by rw [r.len];exact hi
 exact (r.rep i _ _ (List.getElem?_eq_getElem hi') (List.getElem?_eq_getElem hi)).one (r.flat _ (List.getElem_mem hi'))
def OkFz (fz:Nat×Nat) (n:Nat) :Prop:=fz=(0,0)∨n≤fz.1
def rowS (w:World) (e:TypeId) (size:Nat) (v:Value) (n:Nat) (xs:List Value) :Prop:=
 xs.length=n*size∧
 ((v= .slice none 0 0∧n=0)∨
  ∃g cap cur,v= .slice (some ⟨g,0,none⟩) n cap∧(∃fz,OkFz fz cur.size∧w.heap[g]? =some (.cells cur e fz))∧n≤cap∧cap≤maxLen∧cur.size=cap*size∧cur.toList.take (n*size) =xs)
theorem rowS_nil (w:World) (e:TypeId) (size:Nat) :rowS w e size (.slice none 0 0) 0 []:=⟨by simp, .inl ⟨rfl,rfl⟩⟩
def Own (Γ:Froz) (ρ:Nat→Role) (w:World) (p:Place) (i sz:Nat) (l:List D) (v:Value) :Prop:=
 (∃e vs,rowS w e sz v l.length vs∧RepF Γ sz l vs∧∀g,v.ownBlock=some g→ρ g= .own p i∧∀o,Γ ⟨g,o,none⟩ =vs[o]?)∨
 (l= []∧∃a:Addr,v= .slice (some a) 0 0)
def Chan (Γ:Froz) (ρ:Nat→Role) (w:World) (p:Place) (i cap:Nat) (l:List D) (v:Value) :Prop:=
 ∃(g:Nat) (buf:Array Value) (s r:Nat),v= .chan (some g)∧w.heap[g]? =some (.chan cap buf false s r false)∧ρ g= .own p i∧(∀o,Γ ⟨g,o,none⟩ =none)∧buf.size=l.length∧
  ∀(k:Nat) d u,l[k]? =some d→buf[k]? =some u→Rep Γ d u
def Bld (Γ:Froz) (ρ:Nat→Role) (w:World) (p:Place) (i e:Nat) (f:Bool) (l:Bytes) (v:Value) :Prop:=
 (f=true→v= .slice none 0 0)∧w.ownsRowF 0 e 1 v l.length (Lib.byteCells l)∧∀g,v.ownBlock=some g→ρ g= .own p i∧∀o,Γ ⟨g,o,none⟩ =none
def RowH (ρ:Nat→Role) (bl:Nat→Nat) (sz k o n:Nat) (v:Value) :Prop:=
 (n=0∧(v= .slice none 0 0∨∃a:Addr,v= .slice (some a) 0 0))∨
 ∃c cap,v= .slice (some ⟨bl k,o*sz,none⟩) n c∧n≤c∧ρ (bl k) = .row k sz cap∧o+c=cap
def RowA (ρ:Nat→Role) (bl:Nat→Nat) (sz k i off:Nat) (v:Value) :Prop:=
 v= .pointer (some ⟨bl k,i*sz+off,none⟩)∧∃cap,ρ (bl k) = .row k sz cap∧i<cap
def RepC1 (Γ:Froz) (ρ:Nat→Role) (bl:Nat→Nat) (w:World) (p:Place) (i:Nat) :CV→Value→Prop
 | .d x,v=>Rep Γ x v
 | .own sz l,v=>Own Γ ρ w p i sz l v
 | .nils,v=>v= .slice none 0 0
 | .ptr b o,v=>v= .pointer (some ⟨bl b,o,none⟩)
 | .sp b _,v=>v= .pointer none∨v= .pointer (some ⟨bl b,0,none⟩)
 | .ep cs,v=>∃a:Addr,v= .pointer (some a)∧a.spot=none∧(∀d∈cs,d.flat=true)∧∀k d,cs[k]? =some d→∃u,Γ (a.add k) =some u∧Rep Γ d u
 | .fn f caps,v=>v= .func (.func f) #[] (caps.map fun b=>Value.pointer (some ⟨bl b,0,none⟩)).toArray
 | .junk,_=>True
 | .line cap l,v=>Chan Γ ρ w p i cap l v
 | .bld e f l,v=>Bld Γ ρ w p i e f l v
 | .rs sz k o n,v=>RowH ρ bl sz k o n v
 | .ea sz k i off,v=>RowA ρ bl sz k i off v
 | .arr _ _,_=>False
 | .tup _,_ | .agg _,_=>False
def RepL (Γ:Froz) (ρ:Nat→Role) (bl:Nat→Nat) (w:World) (p:Place) (cs:List CV) (vs:List Value) :Prop:=
 cs.length=vs.length∧∀(i:Nat) c v,cs[i]? =some c→vs[i]? =some v→RepC1 Γ ρ bl w p i c v
def RepC (Γ:Froz) (ρ:Nat→Role) (bl:Nat→Nat) (w:World) (p:Place) :CV→Value→Prop
 | .tup l,v=>∃vs:List Value,v= .tuple vs.toArray∧RepL Γ ρ bl w p l vs
 | .agg l,v=>∃vs:List Value,v= .agg vs.toArray∧RepL Γ ρ bl w p l vs
 | c,v=>RepC1 Γ ρ bl w p 0 c v
def CV.ment1 (b:Nat) :CV→Prop
 | .ptr k _=>k=b
 | .sp k _=>k=b
 | .rs _ k _ _=>k=b
 | .ea _ k _ _=>k=b
 | .fn _ caps=>b∈caps
 | _=>False
def CV.ment (b:Nat) :CV→Prop
 | .tup l=>∃c∈l,c.ment1 b
 | .agg l=>∃c∈l,c.ment1 b
 | c=>c.ment1 b
def RowB (Γ:Froz) (ρ:Nat→Role) (w:World) (k g sz:Nat) (l:List D) :Prop:=
 l= []∨∃arr e fz cap,w.heap[g]? =some (.cells arr e fz)∧ρ g= .row k sz cap∧l.length≤cap∧RepF Γ sz l (arr.toList.take (l.length*sz))
structure SR (Γ:Froz) (ρ:Nat→Role) (bl:Nat→Nat) (st:St) (tmps:Array Value) (w:World) :Prop where
 agree: ∀a v,Γ a=some v→w.cell? a=some v
 len:tmps.size=st.s.length
 slots: ∀i c,st.s[i]? =some c→∃v,tmps[i]? =some v∧RepC Γ ρ bl w (.s i) c v
 boxes: ∀b cs,st.bx b=some cs→rowOf cs=none→∃arr e,w.heap[bl b]? =some (.cells arr e (0,0))∧ρ (bl b) = .box b∧RepL Γ ρ bl w (.b b) cs arr.toList∧∀o,Γ ⟨bl b,o,none⟩ =none
 rows: ∀b cs z l,st.bx b=some cs→rowOf cs=some (z,l)→RowB Γ ρ w b (bl b) z l
 rowk: ∀g b z cap,ρ g= .row b z cap→∃arr e fz,w.heap[g]? =some (.cells arr e fz)∧OkFz fz arr.size∧arr.size=cap*z∧cap≤maxLen∧∀o,Γ ⟨g,o,none⟩ =none
 closed: ∀p b,(st.get p).ment b→(st.bx b).isSome=true
 rho: ∀g,ρ g≠ .plain→g<w.heap.size
 gl:Le Gl Γ
 bty: ∀b k t cs,st.bx b=some cs→cs[0]? =some (.sp k t)→∃arr fz,w.heap[bl b]? =some (.cells arr t fz)
structure Fr0 (w0:World) (Γ0:Froz) (ρ0:Nat→Role) (w:World) (Γ:Froz) (ρ:Nat→Role) :Prop where
 le:Le Γ0 Γ
 size:w0.heap.size≤w.heap.size
 os:w.os=w0.os
 tape:w.tape=w0.tape
 output:w.output=w0.output
 block: ∀g,g<w0.heap.size→ρ0 g= .plain→w.heap[g]? =w0.heap[g]? ∧ρ g= .plain
 new: ∀a v,Γ a=some v→Γ0 a=some v∨w0.heap.size≤a.block∨ρ0 a.block≠ .plain
structure Fr (w0:World) (Γ0:Froz) (ρ0:Nat→Role) (w:World) (Γ:Froz) (ρ:Nat→Role) :Prop where
 le:Le Γ0 Γ
 size:w0.heap.size≤w.heap.size
 os:w.os=w0.os
 tape:w.tape=w0.tape
 output:w.output=w0.output
 block: ∀g,g<w0.heap.size→ρ0 g= .plain→w.heap[g]? =w0.heap[g]? ∧ρ g= .plain
 new: ∀a v,Γ a=some v→Γ0 a=some v∨w0.heap.size≤a.block∨ρ0 a.block≠ .plain
 row: ∀g b z cap,ρ0 g= .row b z cap→1000≤b→b<5000→ρ g= .row b z cap
theorem Fr.to0 {w0 w:World} {Γ0 Γ:Froz} {ρ0 ρ:Nat→Role} (h:Fr w0 Γ0 ρ0 w Γ ρ) :Fr0 w0 Γ0 ρ0 w Γ ρ:=⟨h.le,h.size,h.os,h.tape,h.output,h.block,h.new⟩
theorem Fr.refl (w:World) (Γ:Froz) (ρ:Nat→Role) :Fr w Γ ρ w Γ ρ:=⟨.refl _,Nat.le_refl _,rfl,rfl,rfl,fun _ _ h=>⟨rfl,h⟩,fun _ _ h=> .inl h,fun _ _ _ _ h _ _=>h⟩
theorem Fr.trans {w0 w1 w2:World} {Γ0 Γ1 Γ2:Froz} {ρ0 ρ1 ρ2:Nat→Role} (h:Fr w0 Γ0 ρ0 w1 Γ1 ρ1) (k:Fr w1 Γ1 ρ1 w2 Γ2 ρ2) :Fr w0 Γ0 ρ0 w2 Γ2 ρ2:=by
 refine ⟨h.le.trans k.le,Nat.le_trans h.size k.size,k.os.trans h.os,k.tape.trans h.tape,k.output.trans h.output,fun g hg hp=> ?_,fun a v ha=> ?_,fun g b z cap e hb h5=>k.row g b z cap (h.row g b z cap e hb h5) hb h5⟩
 ·obtain ⟨h1,h2⟩:=h.block g hg hp
  obtain ⟨k1,k2⟩:=k.block g (Nat.lt_of_lt_of_le hg h.size) h2
  exact ⟨k1.trans h1,k2⟩
 ·rcases k.new a v ha with h1 | h1 | h1
  ·exact h.new a v h1
  ·exact .inr (.inl (Nat.le_trans h.size h1))
  ·by_cases hl:w0.heap.size≤a.block
   ·exact .inr (.inl hl)
   ·exact .inr (.inr fun hp=>h1 (h.block _ (by omega) hp).2)
def GzOk (ρ:Nat→Role) (w:World) :Prop:=∃m,∀g row,GzRow m g=some row→ρ g= .plain∧∃t fz,w.heap[g]? =some (.cells row t fz)
theorem GzOk.fr {w0 w:World} {Γ0 Γ:Froz} {ρ0 ρ:Nat→Role} (h:GzOk ρ0 w0) (hf:Fr w0 Γ0 ρ0 w Γ ρ) :GzOk ρ w:=by
 obtain ⟨m,h⟩:=h
 refine ⟨m,fun g row hg=> ?_⟩
 obtain ⟨h1,t,fz,h2⟩:=h g row hg
 have hlt:g<w0.heap.size:=(Array.getElem?_eq_some_iff.1 h2).1
 obtain ⟨k1,k2⟩:=hf.block g hlt h1
 exact ⟨k2,t,fz,k1.trans h2⟩
theorem GzOk.role {w:World} {ρ ρ':Nat→Role} (h:GzOk ρ w) (hr: ∀g,ρ g= .plain→ρ' g= .plain) :GzOk ρ' w:=by
 obtain ⟨m,h⟩:=h
 exact ⟨m,fun g row hg=>⟨hr g (h g row hg).1,(h g row hg).2⟩⟩
end B
end Go.Proofs.YtmkkljbfmdngfaaGreatDoor
namespace Go.Proofs.YtmkkljbfmdngfaaGreatDoor
namespace B
open Go.RowKit
def CV.isAggr:CV→Bool
 | .tup _=>true
 | .agg _=>true
 | _=>false
def CV.comp:CV→Nat→CV
 | .tup l,i=>l.getD i .junk
 | .agg l,i=>l.getD i .junk
 | c,_=>c
def Holds (st:St) (p:Place) (i:Nat) :Prop:=((st.get p).comp i).held=true
def RK (ρ ρ':Nat→Role) (bl bl':Nat→Nat) (b:Nat) :Prop:=bl' b=bl b∧∀z cap,ρ (bl b) = .row b z cap→ρ' (bl b) = .row b z cap
theorem Fr.rk {w0 w:World} {Γ0 Γ:Froz} {ρ0 ρ:Nat→Role} {bl bl':Nat→Nat} {b:Nat} (h:Fr w0 Γ0 ρ0 w Γ ρ) (h1:1000≤b) (h5:b<5000) (hb:bl' b=bl b) :RK ρ0 ρ bl bl' b:=⟨hb,fun z cap e=>h.row _ b z cap e h1 h5⟩
theorem RK.refl {ρ:Nat→Role} {bl:Nat→Nat} {b:Nat}:RK ρ ρ bl bl b:=⟨rfl,fun _ _ h=>h⟩
theorem RowH.keep {ρ ρ':Nat→Role} {bl bl':Nat→Nat} {sz k o n:Nat} {v:Value} (q:RK ρ ρ' bl bl' k) (h:RowH ρ bl sz k o n v) :RowH ρ' bl' sz k o n v:=by
 rcases h with h | ⟨c,cap,h1,h2,h3,h4⟩
 ·exact .inl h
 ·exact .inr ⟨c,cap,by rw [q.1];exact h1,h2,by rw [q.1];exact q.2 sz cap h3,h4⟩
theorem RowA.keep {ρ ρ':Nat→Role} {bl bl':Nat→Nat} {sz k o n:Nat} {v:Value} (q:RK ρ ρ' bl bl' k) (h:RowA ρ bl sz k o n v) :RowA ρ' bl' sz k o n v:=by
 obtain ⟨h1,cap,h3,h4⟩:=h
 exact ⟨by rw [q.1];exact h1,cap,by rw [q.1];exact q.2 sz cap h3,h4⟩
theorem RowB.keep {Γ Γ':Froz} {ρ ρ':Nat→Role} {w w':World} {k g sz:Nat} {l:List D} (h:RowB Γ ρ w k g sz l) (le:Le Γ Γ')
  (hk: ∀cap,ρ g= .row k sz cap→ρ' g=ρ g∧w'.heap[g]? =w.heap[g]?) :RowB Γ' ρ' w' k g sz l:=by
 rcases h with h1 | ⟨arr,e,fz,cap,h1,h3,h6,h7⟩
 ·exact .inl h1
 ·obtain ⟨q1,q2⟩:=hk cap h3
  exact .inr ⟨arr,e,fz,cap,by rw [q2];exact h1,by rw [q1];exact h3,h6,h7.mono le⟩
theorem RepC1.keep {Γ Γ':Froz} {ρ ρ':Nat→Role} {bl bl':Nat→Nat} {w w':World} {p:Place} {i:Nat} {c:CV} {v:Value}
  (le:Le Γ Γ') (own:c.held=true→∀g,ρ g= .own p i→ρ' g=ρ g∧w'.heap[g]? =w.heap[g]? ∧∀o,Γ' ⟨g,o,none⟩ =Γ ⟨g,o,none⟩)
  (hb: ∀b,c.ment1 b→RK ρ ρ' bl bl' b) (h:RepC1 Γ ρ bl w p i c v) :RepC1 Γ' ρ' bl' w' p i c v:=by
 cases c with
 | d x=>exact Rep.mono le h
 | own sz l=>
  rcases h with ⟨e,vs,ho,hf,hg⟩ | h
  ·refine .inl ⟨e,vs, ?_,hf.mono le,fun g hv=> ?_⟩
   ·obtain ⟨h1,h2⟩:=ho
    refine ⟨h1, ?_⟩
    rcases h2 with h2 | ⟨g,cap,cur,hv,⟨fz,hok,hh⟩,hr⟩
    ·exact .inl h2
    ·refine .inr ⟨g,cap,cur,hv,⟨fz,hok, ?_⟩,hr⟩
     have:=hg g (by rw [hv];rfl)
     rw [(own rfl g this.1).2.1];exact hh
   ·obtain ⟨h1,h2⟩:=hg g hv
    obtain ⟨k1,k2,k3⟩:=own rfl g h1
    exact ⟨k1.trans h1,fun o=>(k3 o).trans (h2 o)⟩
  ·exact .inr h
 | nils=>exact h
 | ptr b o=>have:=(hb b rfl).1;simp only [RepC1] at h⊢;rw [this];exact h
 | sp b t=>have:=(hb b rfl).1;simp only [RepC1] at h⊢;rw [this];exact h
 | rs z k o n=>exact RowH.keep (hb k rfl) h
 | ea z k i o=>exact RowA.keep (hb k rfl) h
 | arr z l=>exact h.elim
 | ep cs=>
  obtain ⟨a,h1,h2,h3,h4⟩:=h
  exact ⟨a,h1,h2,h3,fun k d hd=>let ⟨u,hu,hr⟩:=h4 k d hd;⟨u,le _ _ hu,hr.mono le⟩⟩
 | fn f caps=>
  simp only [RepC1] at h⊢
  rw [h];congr 2
  exact List.map_congr_left fun b hm=>by rw [(hb b hm).1]
 | junk=>trivial
 | line cap l=>
  obtain ⟨g,buf,s,r,h1,h2,h3,h4,h5,h6⟩:=h
  obtain ⟨k1,k2,k3⟩:=own rfl g h3
  exact ⟨g,buf,s,r,h1,k2.trans h2,k1.trans h3,fun o=>(k3 o).trans (h4 o),h5,fun k d u hd hu=>(h6 k d u hd hu).mono le⟩
 | bld e f l=>
  obtain ⟨h0,⟨h1,h2⟩,h3⟩:=h
  refine ⟨h0,⟨h1, ?_⟩,fun g hv=> ?_⟩
  ·rcases h2 with h2 | ⟨g,cap,cur,fz,hv,hb0,hh,hr⟩
   ·exact .inl h2
   ·refine .inr ⟨g,cap,cur,fz,hv,hb0, ?_,hr⟩
    have:=h3 g (by rw [hv];rfl)
    rw [(own rfl g this.1).2.1];exact hh
  ·obtain ⟨k1,k2⟩:=h3 g hv
   obtain ⟨q1,q2,q3⟩:=own rfl g k1
   exact ⟨q1.trans k1,fun o=>(q3 o).trans (k2 o)⟩
 | tup l=>exact h.elim
 | agg l=>exact h.elim
theorem RepL.keep {Γ Γ':Froz} {ρ ρ':Nat→Role} {bl bl':Nat→Nat} {w w':World} {p:Place} {cs:List CV} {vs:List Value}
  (le:Le Γ Γ') (own: ∀i,(cs.getD i .junk).held=true→∀g,ρ g= .own p i→ρ' g=ρ g∧w'.heap[g]? =w.heap[g]? ∧∀o,Γ' ⟨g,o,none⟩ =Γ ⟨g,o,none⟩)
  (hb: ∀c∈cs,∀b,c.ment1 b→RK ρ ρ' bl bl' b) (h:RepL Γ ρ bl w p cs vs) :RepL Γ' ρ' bl' w' p cs vs:=
 ⟨h.1,fun i c v hc hv=>(h.2 i c v hc hv).keep le (fun e=>own i (by rw [List.getD_eq_getElem?_getD,hc];exact e)) (hb c (List.mem_of_getElem? hc))⟩
theorem RepC.keep {Γ Γ':Froz} {ρ ρ':Nat→Role} {bl bl':Nat→Nat} {w w':World} {p:Place} {c:CV} {v:Value}
  (le:Le Γ Γ') (own: ∀i,(c.comp i).held=true→∀g,ρ g= .own p i→ρ' g=ρ g∧w'.heap[g]? =w.heap[g]? ∧∀o,Γ' ⟨g,o,none⟩ =Γ ⟨g,o,none⟩)
  (hb: ∀b,c.ment b→RK ρ ρ' bl bl' b) (h:RepC Γ ρ bl w p c v) :RepC Γ' ρ' bl' w' p c v:=by
 cases c with
 | tup l=>obtain ⟨vs,h1,h2⟩:=h;exact ⟨vs,h1,h2.keep le (fun i e=>own i e) fun c hc b hm=>hb b ⟨c,hc,hm⟩⟩
 | agg l=>obtain ⟨vs,h1,h2⟩:=h;exact ⟨vs,h1,h2.keep le (fun i e=>own i e) fun c hc b hm=>hb b ⟨c,hc,hm⟩⟩
 | d x=>exact RepC1.keep (v:=v) (c:= .d x) le (fun e=>own 0 e) (fun b hm=>hb b hm) h
 | own z l=>exact RepC1.keep (v:=v) (c:= .own z l) le (fun e=>own 0 e) (fun b hm=>hb b hm) h
 | nils=>exact RepC1.keep (v:=v) (c:= .nils) le (fun e=>own 0 e) (fun b hm=>hb b hm) h
 | ptr k o=>exact RepC1.keep (v:=v) (c:= .ptr k o) le (fun e=>own 0 e) (fun b hm=>hb b hm) h
 | ep cs=>exact RepC1.keep (v:=v) (c:= .ep cs) le (fun e=>own 0 e) (fun b hm=>hb b hm) h
 | fn f caps=>exact RepC1.keep (v:=v) (c:= .fn f caps) le (fun e=>own 0 e) (fun b hm=>hb b hm) h
 | junk=>exact RepC1.keep (v:=v) (c:= .junk) le (fun e=>own 0 e) (fun b hm=>hb b hm) h
 | line cap l=>exact RepC1.keep (v:=v) (c:= .line cap l) le (fun e=>own 0 e) (fun b hm=>hb b hm) h
 | bld e f l=>exact RepC1.keep (v:=v) (c:= .bld e f l) le (fun e=>own 0 e) (fun b hm=>hb b hm) h
 | sp k t=>exact RepC1.keep (v:=v) (c:= .sp k t) le (fun e=>own 0 e) (fun b hm=>hb b hm) h
 | rs z k o n=>exact RepC1.keep (v:=v) (c:= .rs z k o n) le (fun e=>own 0 e) (fun b hm=>hb b hm) h
 | ea z k o n=>exact RepC1.keep (v:=v) (c:= .ea z k o n) le (fun e=>own 0 e) (fun b hm=>hb b hm) h
 | arr z l=>exact h.elim
theorem St.get_bx {st:St} {b:Nat} {cs:List CV} (h:st.bx b=some cs) :st.get (.b b) = .agg cs:=by simp [St.get,h]
theorem St.get_slot {st:St} {i:Nat} {c:CV} (h:st.s[i]? =some c) :st.get (.s i) =c:=by simp [St.get,List.getD_eq_getElem?_getD,h]
def Bx (ρ:Nat→Role) (b g:Nat) :Prop:=ρ g= .box b∨∃z cap,ρ g= .row b z cap
theorem Bx.np {ρ:Nat→Role} {b g:Nat} (h:Bx ρ b g) :ρ g≠ .plain:=by
 rcases h with h | ⟨z,cap,h⟩<;>rw [h]<;>simp
theorem Bx.no {ρ:Nat→Role} {b g i:Nat} {p:Place} (h:Bx ρ b g) :ρ g≠ .own p i:=by
 rcases h with h | ⟨z,cap,h⟩<;>rw [h]<;>simp
theorem SR.keep {Γ Γ':Froz} {ρ ρ':Nat→Role} {bl bl':Nat→Nat} {st:St} {tmps:Array Value} {w w':World} (h:SR Γ ρ bl st tmps w)
  (le:Le Γ Γ') (agree: ∀a v,Γ' a=some v→w'.cell? a=some v)
  (own: ∀g p i,ρ g= .own p i→Holds st p i→ρ' g=ρ g∧w'.heap[g]? =w.heap[g]? ∧∀o,Γ' ⟨g,o,none⟩ =Γ ⟨g,o,none⟩)
  (hbl: ∀b,(st.bx b).isSome=true→bl' b=bl b)
  (box: ∀b g,Bx ρ b g→ρ' g=ρ g∧w'.heap[g]? =w.heap[g]? ∧∀o,Γ' ⟨g,o,none⟩ =Γ ⟨g,o,none⟩)
  (row: ∀g b z cap,ρ' g= .row b z cap→ρ g= .row b z cap)
  (rho: ∀g,ρ' g≠ .plain→g<w'.heap.size) :SR Γ' ρ' bl' st tmps w':=by
 have rk: ∀b,(st.bx b).isSome=true→RK ρ ρ' bl bl' b:=fun b hb=>⟨hbl b hb,fun z cap hc=>by rw [(box b _ (.inr ⟨z,cap,hc⟩)).1];exact hc⟩
 refine ⟨agree,h.len,fun i c hc=> ?_,fun b cs hcs hro=> ?_,fun b cs z l hcs hro=> ?_,fun g b z cap hc=> ?_,h.closed,rho,h.gl.trans le,fun b k t cs hcs hk=> ?_⟩
 ·obtain ⟨v,hv,hr⟩:=h.slots i c hc
  refine ⟨v,hv,hr.keep le (fun j e g hg=>own g _ _ hg (by unfold Holds;rw [St.get_slot hc];exact e)) fun b hm=>rk b (h.closed (.s i) b (by rw [St.get_slot hc];exact hm))⟩
 ·obtain ⟨arr,e,h1,h2,h3,h4⟩:=h.boxes b cs hcs hro
  have k1:=hbl b (by rw [hcs];rfl)
  obtain ⟨k2,k3,k4⟩:=box b _ (.inl h2)
  refine ⟨arr,e,by rw [k1,k3];exact h1,by rw [k1,k2];exact h2,h3.keep le (fun j e g hg=>own g _ _ hg (by unfold Holds;rw [St.get_bx hcs];exact e)) fun c hc b' hm=>rk b' (h.closed (.b b) b' (by rw [St.get_bx hcs];exact ⟨c,hc,hm⟩)),fun o=>by rw [k1,k4];exact h4 o⟩
 ·have k1:=hbl b (by rw [hcs];rfl)
  rw [k1]
  exact (h.rows b cs z l hcs hro).keep le fun cap hc=>let q:=box b _ (.inr ⟨z,cap,hc⟩);⟨q.1,q.2.1⟩
 ·have hc:=row g b z cap hc
  obtain ⟨arr,e,fz,q1,q2,q3,q4,q5⟩:=h.rowk g b z cap hc
  obtain ⟨_,k2,k3⟩:=box b g (.inr ⟨z,cap,hc⟩)
  exact ⟨arr,e,fz,by rw [k2];exact q1,q2,q3,q4,fun o=>by rw [k3];exact q5 o⟩
 ·have k1:=hbl b (by rw [hcs];rfl)
  obtain ⟨arr,fz,q⟩:=h.bty b k t cs hcs hk
  have hro:rowOf cs=none:=by
   unfold rowOf
   split
   ·simp at hk
   ·rfl
  obtain ⟨_,_,_,h2,_⟩:=h.boxes b cs hcs hro
  rw [k1,(box b _ (.inl h2)).2.1]
  exact ⟨arr,fz,q⟩
theorem St.get_setSlot (st:St) (i:Nat) (c:CV) (p:Place) :(st.set (.s i) c).get p=if p= .s i∧i<st.s.length then c else st.get p:=by
 cases p with
 | b n=>simp [St.get,St.set,St.bx]
 | s n=>
  simp only [St.get,St.set,List.getD_eq_getElem?_getD,List.getElem?_set,Place.s.injEq]
  by_cases h:i=n
  ·subst h
   by_cases hl:i<st.s.length<;>simp [hl]
  ·simp [h,Ne.symm h]
theorem SR.setSlot {Γ:Froz} {ρ:Nat→Role} {bl:Nat→Nat} {st:St} {tmps:Array Value} {w:World} (h:SR Γ ρ bl st tmps w) (i:Nat) (c:CV) (v:Value)
  (hr:RepC Γ ρ bl w (.s i) c v) (hm: ∀b,c.ment b→(st.bx b).isSome=true) :SR Γ ρ bl (st.set (.s i) c) (tmps.setIfInBounds i v) w:=by
 refine ⟨h.agree,by simp [St.set,h.len],fun j c' hc'=> ?_,h.boxes,h.rows,h.rowk,fun p b hb=> ?_,h.rho,h.gl,h.bty⟩
 ·simp only [St.set,List.getElem?_set] at hc'
  by_cases e:i=j
  ·subst e
   simp only [if_true] at hc'
   split at hc'
   ·rename_i hl
    obtain rfl:c=c':=by simpa using hc'
    exact ⟨v,by rw [Array.getElem?_setIfInBounds_self_of_lt (by rw [h.len];exact hl)],hr⟩
   ·cases hc'
  ·simp only [e,if_false] at hc'
   obtain ⟨u,hu,hru⟩:=h.slots j c' hc'
   exact ⟨u,by rw [Array.getElem?_setIfInBounds_ne e];exact hu,hru⟩
 ·rw [St.get_setSlot] at hb
  split at hb
  ·exact hm b hb
  ·exact h.closed p b hb
theorem SR.viewSlot {Γ:Froz} {ρ:Nat→Role} {bl:Nat→Nat} {st:St} {tmps:Array Value} {w:World} (h:SR Γ ρ bl st tmps w) (i:Nat) (c:CV)
  (hr: ∀v,tmps[i]? =some v→RepC Γ ρ bl w (.s i) c v) (hm: ∀b,c.ment b→(st.bx b).isSome=true) :SR Γ ρ bl (st.set (.s i) c) tmps w:=by
 by_cases hi:i<tmps.size
 ·have hs:=h.setSlot i c (tmps[i]) (hr _ (by simp [hi])) hm
  have:tmps.setIfInBounds i tmps[i]=tmps:=by
   apply Array.ext_getElem?
   intro j
   by_cases e:i=j
   ·subst e;rw [Array.getElem?_setIfInBounds_self_of_lt hi];simp [hi]
   ·rw [Array.getElem?_setIfInBounds_ne e]
  rwa [this] at hs
 ·have:st.set (.s i) c=st:=by
   have hl:st.s.length≤i:=by rw [←h.len];omega
   cases st;simp only [St.set] at*
   congr 1
   exact List.set_eq_of_length_le hl
  rw [this];exact h
def CV.noOwn:CV→Bool
 | .own _ _=>false
 | .line _ _=>false
 | .bld _ _ _=>false
 | .tup l=>l.all fun c=> !c.held
 | .agg l=>l.all fun c=> !c.held
 | _=>true
theorem RepC1.place {Γ:Froz} {ρ:Nat→Role} {bl:Nat→Nat} {w:World} {p q:Place} {i j:Nat} {c:CV} {v:Value} (hn:c.held=false) (h:RepC1 Γ ρ bl w p i c v) :RepC1 Γ ρ bl w q j c v:=by
 cases c<;>first | exact h | simp [CV.held] at hn
theorem RepC.place {Γ:Froz} {ρ:Nat→Role} {bl:Nat→Nat} {w:World} {p q:Place} {c:CV} {v:Value} (hn:c.noOwn=true) (h:RepC Γ ρ bl w p c v) :RepC Γ ρ bl w q c v:=by
 cases c with
 | tup l=>
  obtain ⟨vs,h1,h2,h3⟩:=h
  exact ⟨vs,h1,h2,fun i c v hc hv=>(h3 i c v hc hv).place (by simp [CV.noOwn] at hn;have:=hn c (List.mem_of_getElem? hc);simpa using this)⟩
 | agg l=>
  obtain ⟨vs,h1,h2,h3⟩:=h
  exact ⟨vs,h1,h2,fun i c v hc hv=>(h3 i c v hc hv).place (by simp [CV.noOwn] at hn;have:=hn c (List.mem_of_getElem? hc);simpa using this)⟩
 | own sz l=>simp [CV.noOwn] at hn
 | line cap l=>simp [CV.noOwn] at hn
 | bld e f l=>simp [CV.noOwn] at hn
 | _=>exact h
theorem Own.rep {Γ:Froz} {ρ:Nat→Role} {w:World} {p:Place} {i sz:Nat} {l:List D} {v:Value} (h:Own Γ ρ w p i sz l v) :Rep Γ (.slice sz l) v:=by
 rcases h with ⟨e,vs,ho,hf,hg⟩ | ⟨rfl,a,rfl⟩
 ·rcases ho.2 with ⟨rfl,h0⟩ | ⟨g,cap,cur,rfl,_,hnc,_⟩
  ·obtain rfl:l= []:=List.eq_nil_of_length_eq_zero h0
   exact .nil sz
  ·have h1:=hg g rfl
   refine .slice sz l ⟨g,0,none⟩ cap (fun i=>vs.getD i default) rfl hnc hf.uni hf.flat (fun i d hd=> ?_) fun i d hd=> ?_
   ·have hi:i<vs.length:=by rw [←hf.len];exact (List.getElem?_eq_some_iff.1 hd).1
    rw [Addr.add_lit',h1.2];simp [List.getD_eq_getElem?_getD,hi]
   ·have hi:i<vs.length:=by rw [←hf.len];exact (List.getElem?_eq_some_iff.1 hd).1
    exact hf.rep i d _ hd (by simp [List.getD_eq_getElem?_getD,hi])
 ·exact .nil0 sz a
theorem RepC1.copy1 {Γ:Froz} {ρ:Nat→Role} {bl:Nat→Nat} {w:World} {p q:Place} {i j:Nat} {c:CV} {v:Value} (h:RepC1 Γ ρ bl w p i c v) :RepC1 Γ ρ bl w q j c.copy1 v:=by
 cases c with
 | own sz l=>exact Own.rep h
 | line cap l=>trivial
 | bld e f l=>trivial
 | sp b t=>trivial
 | arr z l=>trivial
 | _=>exact h
theorem copy1_held (c:CV) :c.copy1.held=false:=by cases c<;>rfl
theorem copy1_ment1 {c:CV} {b:Nat} (h:c.copy1.ment1 b) :c.ment1 b:=by cases c<;>first | exact h | exact h.elim
theorem RepL.copy {Γ:Froz} {ρ:Nat→Role} {bl:Nat→Nat} {w:World} {p q:Place} {cs:List CV} {vs:List Value} (h:RepL Γ ρ bl w p cs vs) :RepL Γ ρ bl w q (cs.map CV.copy1) vs:=by
 refine ⟨by simpa using h.1,fun i c v hc hv=> ?_⟩
 rw [List.getElem?_map,Option.map_eq_some_iff] at hc
 obtain ⟨c',hc',rfl⟩:=hc
 exact (h.2 i c' v hc' hv).copy1
theorem RepC.copy {Γ:Froz} {ρ:Nat→Role} {bl:Nat→Nat} {w:World} {p q:Place} {c:CV} {v:Value} (h:RepC Γ ρ bl w p c v) :RepC Γ ρ bl w q c.copy v:=by
 cases c with
 | tup l=>obtain ⟨vs,h1,h2⟩:=h;exact ⟨vs,h1,h2.copy⟩
 | agg l=>obtain ⟨vs,h1,h2⟩:=h;exact ⟨vs,h1,h2.copy⟩
 | own sz l=>exact Own.rep h
 | line cap l=>trivial
 | bld e f l=>trivial
 | sp b t=>trivial
 | arr z l=>trivial
 | _=>exact h
theorem copy_noOwn (c:CV) :c.copy.noOwn=true:=by
 cases c with
 | tup l=>simp [CV.copy,CV.noOwn,copy1_held]
 | agg l=>simp [CV.copy,CV.noOwn,copy1_held]
 | _=>rfl
theorem copy_ment {c:CV} {b:Nat} (h:c.copy.ment b) :c.ment b:=by
 cases c with
 | tup l=>
  obtain ⟨c,hc,hm⟩:=h
  rw [List.mem_map] at hc
  obtain ⟨c',hc',rfl⟩:=hc
  exact ⟨c',hc',copy1_ment1 hm⟩
 | agg l=>
  obtain ⟨c,hc,hm⟩:=h
  rw [List.mem_map] at hc
  obtain ⟨c',hc',rfl⟩:=hc
  exact ⟨c',hc',copy1_ment1 hm⟩
 | _=>first | exact h | exact h.elim
def upd {α:Type} (f:Nat→α) (k:Nat) (x:α) :Nat→α:=fun i=>if i=k then x else f i
theorem upd_same {α:Type} (f:Nat→α) (k:Nat) (x:α) :upd f k x k=x:=by simp [upd]
theorem upd_ne {α:Type} (f:Nat→α) {k i:Nat} (x:α) (h:i≠k) :upd f k x i=f i:=by simp [upd,h]
theorem SR.rerole {Γ:Froz} {ρ:Nat→Role} {bl:Nat→Nat} {st:St} {tmps:Array Value} {w:World} (h:SR Γ ρ bl st tmps w) {g:Nat} {p:Place} {i:Nat} (hg:ρ g= .own p i) (hh: ¬Holds st p i) (r:Role) (hr: ∀b z cap,r≠ .row b z cap:=by simp) :
  SR Γ (upd ρ g r) bl st tmps w:=by
 refine h.keep (.refl _) h.agree (fun g' p' i' h1 h2=> ?_) (fun _ _=>rfl) (fun b g' hb=> ?_) (fun g' b z cap e=> ?_) fun g' hg'=> ?_
 ·have:g'≠g:=by rintro rfl;rw [hg] at h1;cases h1;exact hh h2
  exact ⟨upd_ne _ _ this,rfl,fun _=>rfl⟩
 ·have:g'≠g:=by rintro rfl;exact hb.no hg
  exact ⟨upd_ne _ _ this,rfl,fun _=>rfl⟩
 ·by_cases e':g'=g
  ·subst e';rw [upd_same] at e;exact absurd e (hr b z cap)
  ·rw [upd_ne _ _ e'] at e;exact e
 ·by_cases e:g'=g
  ·subst e;exact h.rho g' (by rw [hg];simp)
  ·rw [upd_ne _ _ e] at hg';exact h.rho g' hg'
def freezeRow (Γ:Froz) (g:Nat) (vs:List Value) :Froz:=fun a=>if a.block=g∧a.spot=none then vs[a.off]? else Γ a
theorem freezeRow_at (Γ:Froz) (g:Nat) (vs:List Value) (o:Nat) :freezeRow Γ g vs ⟨g,o,none⟩ =vs[o]? :=by simp [freezeRow]
theorem freezeRow_ne (Γ:Froz) {g k:Nat} (vs:List Value) (o:Nat) (h:k≠g) :freezeRow Γ g vs ⟨k,o,none⟩ =Γ ⟨k,o,none⟩:=by simp [freezeRow,h]
theorem freezeRow_le {Γ:Froz} {g:Nat} {vs us:List Value} (h: ∀o,Γ ⟨g,o,none⟩ =vs[o]?) (hp: ∀(i:Nat) u,vs[i]? =some u→us[i]? =some u) :Le Γ (freezeRow Γ g us):=by
 intro a v ha
 unfold freezeRow
 split
 ·rename_i hc
  rw [Addr.eq_lit a hc.2,hc.1,h] at ha
  exact hp _ _ ha
 ·exact ha
theorem SR.none_new {Γ:Froz} {ρ:Nat→Role} {bl:Nat→Nat} {st:St} {tmps:Array Value} {w:World} (h:SR Γ ρ bl st tmps w) {g:Nat} (hg:w.heap.size≤g) (o:Nat) :Γ ⟨g,o,none⟩ =none:=by
 cases e:Γ ⟨g,o,none⟩ with
 | none=>rfl
 | some v=>have:=block_lt_of_cell (h.agree _ _ e);simp only at this;omega
theorem SR.plain_new {Γ:Froz} {ρ:Nat→Role} {bl:Nat→Nat} {st:St} {tmps:Array Value} {w:World} (h:SR Γ ρ bl st tmps w) {g:Nat} (hg:w.heap.size≤g) :ρ g= .plain:=by
 cases e:ρ g with
 | plain=>rfl
 | _=>have:=h.rho g (by rw [e];simp);omega
theorem SR.world {Γ:Froz} {ρ:Nat→Role} {bl:Nat→Nat} {st:St} {tmps:Array Value} {w w':World} (h:SR Γ ρ bl st tmps w) (hs:w.heap.size≤w'.heap.size) (hb: ∀g,g<w.heap.size→w'.heap[g]? =w.heap[g]?) :SR Γ ρ bl st tmps w':=by
 refine h.keep (.refl _) (fun a v ha=> ?_) (fun g p i h1 _=>⟨rfl,hb g (h.rho g (by rw [h1];simp)),fun _=>rfl⟩) (fun _ _=>rfl) (fun b g hx=>⟨rfl,hb _ (h.rho _ hx.np),fun _=>rfl⟩) (fun _ _ _ _ e=>e) fun g hg=>Nat.lt_of_lt_of_le (h.rho g hg) hs
 have:=h.agree a v ha
 rw [World.cell?_of_block (hb a.block (block_lt_of_cell this))];exact this
theorem SR.newOwn {Γ:Froz} {ρ:Nat→Role} {bl:Nat→Nat} {st:St} {tmps:Array Value} {w:World} (h:SR Γ ρ bl st tmps w) (cells:Array Value) (e:TypeId) (vs:List Value) (hp: ∀(i:Nat) u,vs[i]? =some u→cells[i]? =some u) (r:Role) (hr: ∀b z cap,r≠ .row b z cap:=by simp) :
  SR (freezeRow Γ w.heap.size vs) (upd ρ w.heap.size r) bl st tmps (w.alloc (.cells cells e))∧Fr w Γ ρ (w.alloc (.cells cells e)) (freezeRow Γ w.heap.size vs) (upd ρ w.heap.size r):=by
 have hle:Le Γ (freezeRow Γ w.heap.size vs):=freezeRow_le (vs:=[]) (fun o=>by rw [h.none_new (Nat.le_refl _)];rfl) (by simp)
 have hnew:=heap_alloc_new w (.cells cells e)
 have hold:=fun k hk=>heap_alloc_old w (.cells cells e) k hk
 have hsz:(w.alloc (.cells cells e)).heap.size=w.heap.size+1:=by simp
 refine ⟨h.keep hle (fun a v ha=> ?_) (fun g p i h1 _=> ?_) (fun _ _=>rfl) (fun b g hx=> ?_) (fun g b z cap e'=> ?_) fun g hg=> ?_,⟨hle,by omega,rfl,rfl,rfl,fun g hg hpl=>⟨hold g hg, ?_⟩,fun a v ha=> ?_,fun g b z cap e' _ _=>by rw [upd_ne _ _ (by have:=h.rho g (by rw [e'];simp);omega)];exact e'⟩⟩
 ·unfold freezeRow at ha
  split at ha
  ·rename_i hc
   have:=hp _ _ ha
   simp only [World.cell?,hc.1,hnew,hc.2]
   simpa using this
  ·have:=h.agree a v ha
   rw [World.cell?_of_block (hold a.block (block_lt_of_cell this))];exact this
 ·have hg:=h.rho g (by rw [h1];simp)
  exact ⟨upd_ne _ _ (by omega),hold g hg,fun o=>freezeRow_ne _ _ _ (by omega)⟩
 ·have hg:=h.rho g hx.np
  exact ⟨upd_ne _ _ (by omega),hold _ hg,fun o=>freezeRow_ne _ _ _ (by omega)⟩
 ·by_cases e2:g=w.heap.size
  ·subst e2;rw [upd_same] at e';exact absurd e' (hr b z cap)
  ·rw [upd_ne _ _ e2] at e';exact e'
 ·by_cases e':g=w.heap.size
  ·omega
  ·rw [upd_ne _ _ e'] at hg;have:=h.rho g hg;omega
 ·rw [upd_ne _ _ (by omega)];exact hpl
 ·unfold freezeRow at ha
  split at ha
  ·rename_i hc;exact .inr (.inl (by rw [hc.1];exact Nat.le_refl _))
  ·exact .inl ha
theorem lookup_setB (b k:Nat) (cs:List CV) : ∀l:List (Nat×List CV),(setB b cs l).lookup k=if k=b then some cs else l.lookup k
 | []=>by
  by_cases e:k=b
  ·subst e;simp [setB]
  ·have:(k==b) =false:=by simp [e]
   simp [setB,List.lookup,this,e]
 | (x,v) :: r=>by
  unfold setB
  by_cases e:b=x
  ·subst e
   by_cases e2:k=b
   ·subst e2;simp
   ·have:(k==b) =false:=by simp [e2]
    simp [List.lookup,this,e2]
  ·have h1:(b==x) =false:=by simp [e]
   simp only [h1,Bool.false_eq_true,if_false]
   by_cases e2:k=x
   ·subst e2;simp [List.lookup,Ne.symm e]
   ·have:(k==x) =false:=by simp [e2]
    simp only [List.lookup,this]
    exact lookup_setB b k cs r
theorem St.bx_setBox (st:St) (b k:Nat) (cs:List CV) :(st.set (.b b) (.agg cs)).bx k=if k=b then some cs else st.bx k:=lookup_setB b k cs st.b
theorem St.get_setBox (st:St) (b:Nat) (cs:List CV) (p:Place) :(st.set (.b b) (.agg cs)).get p=if p= .b b then .agg cs else st.get p:=by
 cases p with
 | s n=>simp [St.get,St.set]
 | b n=>
  simp only [St.get,St.bx_setBox,Place.b.injEq]
  by_cases e:n=b<;>simp [e]
theorem RepL.noRow {Γ:Froz} {ρ:Nat→Role} {bl:Nat→Nat} {w:World} {p:Place} {cs:List CV} {vs:List Value} (h:RepL Γ ρ bl w p cs vs) :rowOf cs=none:=by
 unfold rowOf
 split
 ·rename_i z l
  obtain ⟨h1,h2⟩:=h
  have hv:0<vs.length:=by rw [←h1];simp
  exact (h2 0 (.arr z l) vs[0] rfl (by simp [hv])).elim
 ·rfl
theorem SR.setBox {Γ:Froz} {ρ:Nat→Role} {bl:Nat→Nat} {st:St} {tmps:Array Value} {w:World} (h:SR Γ ρ bl st tmps w) {b:Nat} {cs:List CV} (hcs:st.bx b=some cs) (hro:rowOf cs=none) (cs':List CV) (arr':Array Value)
  (hr:RepL Γ ρ bl w (.b b) cs' arr'.toList) (hm: ∀c∈cs',∀k,c.ment1 k→(st.bx k).isSome=true)
  (hsp: ∀k t,cs'[0]? =some (.sp k t)→cs[0]? =some (.sp k t)∨∃arr fz,w.heap[bl b]? =some (.cells arr t fz)) :
  SR Γ ρ bl (st.set (.b b) (.agg cs')) tmps (w.setRow (bl b) arr')∧Fr w Γ ρ (w.setRow (bl b) arr') Γ ρ:=by
 obtain ⟨arr,e,h1,h2,h3,h4⟩:=h.boxes b cs hcs hro
 have hsame:=setRow_heap w (bl b) arr arr' e (0,0) h1
 have hoth:=fun k (hk:k≠bl b)=>setRow_other w (bl b) k arr' hk
 have ownk: ∀g (p:Place) i,ρ g= .own p i→ρ g=ρ g∧(w.setRow (bl b) arr').heap[g]? =w.heap[g]? ∧∀o,Γ ⟨g,o,none⟩ =Γ ⟨g,o,none⟩:=fun g p i hg=>
  ⟨rfl,hoth g (by intro e;rw [e,h2] at hg;cases hg),fun _=>rfl⟩
 refine ⟨⟨fun a v ha=> ?_,h.len,fun i c hc=> ?_,fun k ck hck hrk=> ?_,fun k ck z l hck hrk=> ?_,fun g k z cap hc=> ?_,fun p k hk=> ?_,fun g hg=>by simpa using h.rho g hg,h.gl,fun k j t ck hck hj=> ?_⟩,⟨.refl _,by simp,rfl,rfl,rfl,fun g hg hp=>⟨hoth g (by intro e;rw [e,h2] at hp;cases hp),hp⟩,fun _ _ h=> .inl h,fun _ _ _ _ e _ _=>e⟩⟩
 ·have hne:a.block≠bl b:=by
   intro e'
   have hsp:a.spot=none:=by
    have:=h.agree a v ha
    unfold World.cell? at this
    split at this
    ·split at this
     ·cases this
     ·rename_i hh;simpa using hh
    ·cases this
   rw [Addr.eq_lit a hsp,e',h4] at ha;cases ha
  rw [World.cell?_of_block (hoth _ hne)];exact h.agree a v ha
 ·obtain ⟨v,hv,hrv⟩:=h.slots i c hc
  exact ⟨v,hv,hrv.keep (.refl _) (fun j _ g hg=>ownk g _ _ hg) fun _ _=>RK.refl⟩
 ·rw [St.bx_setBox] at hck
  split at hck
  ·rename_i e';subst e'
   obtain rfl:cs'=ck:=by simpa using hck
   exact ⟨arr',e,hsame,h2,hr.keep (.refl _) (fun j _ g hg=>ownk g _ _ hg) fun _ _ _ _=>RK.refl,h4⟩
  ·rename_i hne
   obtain ⟨arrk,ek,k1,k2,k3,k4⟩:=h.boxes k ck hck hrk
   have hbk:bl k≠bl b:=by intro e';rw [e',h2] at k2;injection k2 with k2;exact hne k2.symm
   exact ⟨arrk,ek,by rw [hoth _ hbk];exact k1,k2,k3.keep (.refl _) (fun j _ g hg=>ownk g _ _ hg) fun _ _ _ _=>RK.refl,k4⟩
 ·rw [St.bx_setBox] at hck
  split at hck
  ·rename_i e';subst e'
   obtain rfl:cs'=ck:=by simpa using hck
   rw [hr.noRow] at hrk;cases hrk
  ·exact (h.rows k ck z l hck hrk).keep (.refl _) fun cap hc=>⟨rfl,hoth _ (by intro e';rw [e',h2] at hc;cases hc)⟩
 ·obtain ⟨arr2,e2,fz2,q1,q2⟩:=h.rowk g k z cap hc
  exact ⟨arr2,e2,fz2,by rw [hoth g (by intro e';rw [e',h2] at hc;cases hc)];exact q1,q2⟩
 ·rw [St.get_setBox] at hk
  rw [St.bx_setBox]
  split at hk
  ·obtain ⟨c,hc,hc'⟩:=hk
   split
   ·rfl
   ·exact hm c hc k hc'
  ·split
   ·rfl
   ·exact h.closed p k hk
 ·rw [St.bx_setBox] at hck
  split at hck
  ·rename_i e';subst e'
   obtain rfl:cs'=ck:=by simpa using hck
   have: ∃arr fz,w.heap[bl k]? =some (.cells arr t fz):=by
    rcases hsp j t hj with e1 | e1
    ·exact h.bty k j t cs hcs e1
    ·exact e1
   obtain ⟨arr0,fz,e1⟩:=this
   rw [h1] at e1
   injection e1 with e1;injection e1 with _ e2 _
   subst e2
   exact ⟨arr',(0,0),hsame⟩
  ·rename_i hne
   have hrk:rowOf ck=none:=by
    unfold rowOf
    split
    ·simp at hj
    ·rfl
   obtain ⟨arrk,ek,k1,k2,k3,k4⟩:=h.boxes k ck hck hrk
   have hbk:bl k≠bl b:=by intro e';rw [e',h2] at k2;injection k2 with k2;exact hne k2.symm
   rw [hoth _ hbk];exact h.bty k j t ck hck hj
theorem SR.newBox {Γ:Froz} {ρ:Nat→Role} {bl:Nat→Nat} {st:St} {tmps:Array Value} {w:World} (h:SR Γ ρ bl st tmps w) {b:Nat} (hb:st.bx b=none) (cs:List CV) (arr:Array Value) (e:TypeId)
  (hr:RepL Γ ρ bl w (.b b) cs arr.toList) (hm: ∀c∈cs,∀k,c.ment1 k→(st.bx k).isSome=true) (hsp: ∀k t,cs[0]? ≠some (.sp k t)) :
  SR Γ (upd ρ w.heap.size (.box b)) (upd bl b w.heap.size) (st.set (.b b) (.agg cs)) tmps (w.alloc (.cells arr e))∧Fr w Γ ρ (w.alloc (.cells arr e)) Γ (upd ρ w.heap.size (.box b)):=by
 have hnew:=heap_alloc_new w (.cells arr e)
 have hold:=fun k hk=>heap_alloc_old w (.cells arr e) k hk
 have hsz:(w.alloc (.cells arr e)).heap.size=w.heap.size+1:=by simp
 have hblk: ∀k,(st.bx k).isSome=true→upd bl b w.heap.size k=bl k:=fun k hk=>upd_ne _ _ (by rintro rfl;rw [hb] at hk;cases hk)
 have hrk: ∀k,(st.bx k).isSome=true→RK ρ (upd ρ w.heap.size (.box b)) bl (upd bl b w.heap.size) k:=fun k hk=>⟨hblk k hk,fun z cap hc=>by
  have:=h.rho (bl k) (by rw [hc];simp)
  rw [upd_ne _ _ (by omega)];exact hc⟩
 have ownk: ∀g (p:Place) i,ρ g= .own p i→upd ρ w.heap.size (.box b) g=ρ g∧(w.alloc (.cells arr e)).heap[g]? =w.heap[g]? ∧∀o,Γ ⟨g,o,none⟩ =Γ ⟨g,o,none⟩:=fun g p i hg=>by
  have:=h.rho g (by rw [hg];simp)
  exact ⟨upd_ne _ _ (by omega),hold g this,fun _=>rfl⟩
 refine ⟨⟨fun a v ha=> ?_,h.len,fun i c hc=> ?_,fun k ck hck hro=> ?_,fun k ck z l hck hro=> ?_,fun g k z cap hc=> ?_,fun p k hk=> ?_,fun g hg=> ?_,h.gl,fun k j t ck hck hj=> ?_⟩,⟨.refl _,by omega,rfl,rfl,rfl,fun g hg hp=>⟨hold g hg,by rw [upd_ne _ _ (by omega)];exact hp⟩,fun _ _ h=> .inl h,fun g b z cap e' _ _=>by rw [upd_ne _ _ (by have:=h.rho g (by rw [e'];simp);omega)];exact e'⟩⟩
 ·have:=h.agree a v ha
  rw [World.cell?_of_block (hold a.block (block_lt_of_cell this))];exact this
 ·obtain ⟨v,hv,hrv⟩:=h.slots i c hc
  exact ⟨v,hv,hrv.keep (.refl _) (fun j _ g hg=>ownk g _ _ hg) fun k hk=>hrk k (h.closed (.s i) k (by rw [St.get_slot (st:=st) hc];exact hk))⟩
 ·rw [St.bx_setBox] at hck
  split at hck
  ·rename_i e';subst e'
   obtain rfl:cs=ck:=by simpa using hck
   rw [upd_same]
   exact ⟨arr,e,hnew,upd_same _ _ _,hr.keep (.refl _) (fun j _ g hg=>ownk g _ _ hg) fun c hc k hk=>hrk k (hm c hc k hk),fun o=>h.none_new (Nat.le_refl _) o⟩
  ·rename_i hne
   obtain ⟨arrk,ek,k1,k2,k3,k4⟩:=h.boxes k ck hck hro
   have hl:=h.rho (bl k) (by rw [k2];simp)
   rw [hblk k (by rw [hck];rfl)]
   exact ⟨arrk,ek,by rw [hold _ hl];exact k1,by rw [upd_ne _ _ (by omega)];exact k2,k3.keep (.refl _) (fun j _ g hg=>ownk g _ _ hg) fun c hc j hj=>hrk j (h.closed (.b k) j (by rw [St.get_bx hck];exact ⟨c,hc,hj⟩)),k4⟩
 ·rw [St.bx_setBox] at hck
  split at hck
  ·rename_i e';subst e'
   obtain rfl:cs=ck:=by simpa using hck
   rw [hr.noRow] at hro;cases hro
  ·rw [hblk k (by rw [hck];rfl)]
   refine (h.rows k ck z l hck hro).keep (.refl _) fun cap hc=> ?_
   have hl:=h.rho (bl k) (by rw [hc];simp)
   exact ⟨upd_ne _ _ (by omega),hold _ hl⟩
 ·by_cases e':g=w.heap.size
  ·rw [e',upd_same] at hc;cases hc
  ·rw [upd_ne _ _ e'] at hc
   have hl:=h.rho g (by rw [hc];simp)
   obtain ⟨arr2,e2,fz2,q1,q2⟩:=h.rowk g k z cap hc
   exact ⟨arr2,e2,fz2,by rw [hold g hl];exact q1,q2⟩
 ·rw [St.get_setBox] at hk
  rw [St.bx_setBox]
  split at hk
  ·obtain ⟨c,hc,hc'⟩:=hk
   split
   ·rfl
   ·exact hm c hc k hc'
  ·split
   ·rfl
   ·exact h.closed p k hk
 ·by_cases e':g=w.heap.size
  ·omega
  ·rw [upd_ne _ _ e'] at hg;have:=h.rho g hg;omega
 ·rw [St.bx_setBox] at hck
  split at hck
  ·rename_i e';subst e'
   obtain rfl:cs=ck:=by simpa using hck
   exact absurd hj (hsp j t)
  ·rename_i hne
   have hrk:rowOf ck=none:=by
    unfold rowOf
    split
    ·simp at hj
    ·rfl
   obtain ⟨arrk,ek,k1,k2,k3,k4⟩:=h.boxes k ck hck hrk
   have hl:=h.rho (bl k) (by rw [k2];simp)
   rw [hblk k (by rw [hck];rfl),hold _ hl]
   exact h.bty k j t ck hck hj
end B
end Go.Proofs.YtmkkljbfmdngfaaGreatDoor
