import Derived.Test.YtnaemmpcffnbkaaGreatDoorRM6
namespace Go.Ab
open Go
theorem zs{P R:Prop}(q:R)(h:P=R:=by first | (simp only[wm,↓wk,↓wl,nq,evV,↓reduceIte,sevalprocAttr];rfl) | rfl):P:=h.mpr q
theorem zz{P R:Prop}(q:R)(h:P=R:=by first | (simp only[wm,↓wk,↓wl,nqa,evV,↓reduceIte,Nat.reduceEqDiff,Nat.reduceAdd,Nat.reduceSub,Nat.reduceLeDiff,Nat.reduceLT,Nat.reduceBEq,reduceCtorEq,Int.reduceEq];rfl) | rfl):P:=h.mpr q
theorem zE0{P R:Prop}(q:R)(h:P=R:=by first | (simp only[eL,wm,↓wk,↓wl,nq,evV,↓reduceIte,sevalprocAttr];rfl) | rfl):P:=h.mpr q
theorem zE1{P R:Prop}(q:R)(h:P=R:=by first | (simp only[eApiSelect,eL,eM,wm,↓wk,↓wl,nq,evV,↓reduceIte,sevalprocAttr];rfl) | rfl):P:=h.mpr q
theorem zE2{P R:Prop}(q:R)(h:P=R:=by first | (simp only[eApiGroup,eL,eM,wm,↓wk,↓wl,nq,evV,↓reduceIte,sevalprocAttr];rfl) | rfl):P:=h.mpr q
theorem zE3{P R:Prop}(q:R)(h:P=R:=by first | (simp only[eApiPoint,eL,eM,wm,↓wk,↓wl,nq,evV,↓reduceIte,sevalprocAttr];rfl) | rfl):P:=h.mpr q
theorem zE4{P R:Prop}(q:R)(h:P=R:=by first | (simp only[eApiSlot,eL,eM,wm,↓wk,↓wl,nq,evV,↓reduceIte,sevalprocAttr];rfl) | rfl):P:=h.mpr q
theorem zE5{P R:Prop}(q:R)(h:P=R:=by first | (simp only[eApiFeature,eL,eM,wm,↓wk,↓wl,nq,evV,↓reduceIte,sevalprocAttr];rfl) | rfl):P:=h.mpr q
theorem zE6{P R:Prop}(q:R)(h:P=R:=by first | (simp only[eApiProfile,eL,eM,wm,↓wk,↓wl,nq,evV,↓reduceIte,sevalprocAttr];rfl) | rfl):P:=h.mpr q
theorem zE7{P R:Prop}(q:R)(h:P=R:=by first | (simp only[eArr2_54,eL,eM,wm,↓wk,↓wl,nq,evV,↓reduceIte,sevalprocAttr];rfl) | rfl):P:=h.mpr q
theorem zE8{P R:Prop}(q:R)(h:P=R:=by first | (simp only[eApiFixture,eL,eM,wm,↓wk,↓wl,nq,evV,↓reduceIte,sevalprocAttr];rfl) | rfl):P:=h.mpr q
theorem zE9{P R:Prop}(q:R)(h:P=R:=by first | (simp only[eApiEntry,eL,eM,wm,↓wk,↓wl,nq,evV,↓reduceIte,sevalprocAttr];rfl) | rfl):P:=h.mpr q
theorem zE10{P R:Prop}(q:R)(h:P=R:=by first | (simp only[eApiParam,eL,eM,wm,↓wk,↓wl,nq,evV,↓reduceIte,sevalprocAttr];rfl) | rfl):P:=h.mpr q
theorem zE11{P R:Prop}(q:R)(h:P=R:=by first | (simp only[eRef06Range,eL,eM,wm,↓wk,↓wl,nq,evV,↓reduceIte,sevalprocAttr];rfl) | rfl):P:=h.mpr q
section
variable {P:Program}{n lo:Nat}{Q:Ex→St→Prop}{st:St}{R:Prop}
theorem zr{is:List Ins}{y:C}(q:R)(h:evTs (Fn P) is (fun st=>AW P n lo y Q st) st=R:=by first | (simp only[wm,↓wk,↓wl,nq,evV,↓reduceIte,sevalprocAttr];rfl) | rfl):AW P n lo (.seq (.reg is) y) Q st:=AW.rseq (h.mpr q)
theorem zrn{is:List Ins}{y:C}(q:R)(h:evTs (Fn P) is (fun st=>AW P n lo y Q st) st=R:=by first | (simp only[wm,↓wk,↓wl,nqa,evV,↓reduceIte,Nat.reduceEqDiff,Nat.reduceAdd,Nat.reduceSub,Nat.reduceLeDiff,Nat.reduceLT,Nat.reduceBEq,reduceCtorEq,Int.reduceEq];rfl) | rfl):AW P n lo (.seq (.reg is) y) Q st:=AW.rseq (h.mpr q)
theorem ze{is:List Ins}(q:R)(h:evTs (Fn P) is (fun st=>Q .normal st) st=R:=by first | (simp only[wm,↓wk,↓wl,nq,evV,↓reduceIte,sevalprocAttr];rfl) | rfl):AW P n lo (.reg is) Q st:=AW.rend (h.mpr q)
theorem zen{is:List Ins}(q:R)(h:evTs (Fn P) is (fun st=>Q .normal st) st=R:=by first | (simp only[wm,↓wk,↓wl,nqa,evV,↓reduceIte,Nat.reduceEqDiff,Nat.reduceAdd,Nat.reduceSub,Nat.reduceLeDiff,Nat.reduceLT,Nat.reduceBEq,reduceCtorEq,Int.reduceEq];rfl) | rfl):AW P n lo (.reg is) Q st:=AW.rend (h.mpr q)
theorem zk(h:Q .normal st):AW P n lo .skip Q st:=AW.skip h
theorem zt(h:Q .ret st):AW P n lo .ret Q st:=AW.ret h
theorem zx{id:Nat}(h:Q (.exit id) st):AW P n lo (.exit id) Q st:=AW.exit h
theorem zq{a y:C}(h:AW P n lo a (seqQ P n lo y Q) st):AW P n lo (.seq a y) Q st:=AW.sseq h
theorem zb{id:Nat}{c y:C}(h:AW P n lo c (blkQ P n lo id y Q) st):AW P n lo (.seq (.block id c) y) Q st:=AW.bseq h
theorem zd{id:Nat}{c:C}(h:AW P n lo c (blk0 id Q) st):AW P n lo (.block id c) Q st:=AW.bend h
theorem zm{y:C}(h:AW P n lo y Q st):seqQ P n lo y Q .normal st:=h
theorem zy{y:C}{i:Nat}(h:Q (.exit i) st):seqQ P n lo y Q (.exit i) st:=h
theorem zv{y:C}(h:Q .ret st):seqQ P n lo y Q .ret st:=h
theorem zo{id:Nat}{y:C}(h:AW P n lo y Q st):blkQ P n lo id y Q .normal st:=h
theorem zj{id:Nat}{y:C}(h:AW P n lo y Q st):blkQ P n lo id y Q (.exit id) st:=blkQ.here h
theorem zp{id:Nat}{y:C}(h:Q .ret st):blkQ P n lo id y Q .ret st:=h
theorem zl{id:Nat}(h:Q .normal st):blk0 id Q .normal st:=h
theorem zi{id:Nat}(h:Q .normal st):blk0 id Q (.exit id) st:=blk0.here h
theorem zh{id:Nat}(h:Q .ret st):blk0 id Q .ret st:=h
theorem za{x:Od}{p q:C}(h:AW P n lo p Q st)(hx:x.ev st.s=.bool true:=by rfl):AW P n lo (.cond x p q) Q st:=AW.ift hx h
theorem zc{x:Od}{p q:C}(h:AW P n lo q Q st)(hx:x.ev st.s=.bool false:=by rfl):AW P n lo (.cond x p q) Q st:=AW.iff hx h
theorem ic{α : Type}{A B:Option α}{r : α}{b:Bool}(H:(if b=true then A else B)=some r){x:Od}{p q:C}(h1:A=some r→AW P n lo p Q st)(h2:B=some r→AW P n lo q Q st)(hx:x.ev st.s=.bool b:=by rfl):AW P n lo (.cond x p q) Q st:=AW.ifc H hx h1 h2
theorem w3{f:Nat}{rs:List Rv}{ir:C}(hf:fd? P f=some (n,rs,ir)){args:List AV}{v:AV}(hw:∀ Q,Ends2 rs none (fun x=>x=v∨Ab.unfD 12 x=v) Q→AW P n 0 ir Q ⟨slotsOf args,[]⟩)(hn:args.length≤n:=by exact Nat.le_of_ble_eq_true rfl)(hv:Ab.unr v=v:=by rfl):Pure P f args (· = v):=Pure.walk3 hf none hn hv hw
theorem w3s{f:Nat}{rs:List Rv}{ir:C}(hf:fd? P f=some (n,rs,ir))(k:Nat){args:List AV}{v:AV}(hw:∀ Q,Ends2 rs (some k) (fun x=>x=v∨Ab.unfD 12 x=v) Q→AW P n 0 ir Q ⟨slotsOf args,[]⟩)(hn:args.length≤n:=by exact Nat.le_of_ble_eq_true rfl)(hv:Ab.unr v=v:=by rfl):Pure P f args (· = v):=Pure.walk3 hf (some k) hn hv hw
theorem zf{rs:List Rv}{R:AV→Prop}{v:AV}(hQ:Ends2 rs none R Q)(h1:resVs st rs=some v:=by simp only[resVs,omap,resV,wm,↓wk,↓wl,nq,evV,↓reduceIte,sevalprocAttr];rfl)(h2:plain deep v=true:=by rfl)(h3:R (unr v):=by first | exact Or.inl rfl | exact Or.inr rfl):Q .ret st:=hQ _ _ _ _ (.inr rfl) h1 (hand_plain h2) h3
theorem zg{rs:List Rv}{R:AV→Prop}{v:AV}(hQ:Ends2 rs none R Q)(h1:resVs st rs=some v:=by simp only[resVs,omap,resV,wm,↓wk,↓wl,nqa,evV,↓reduceIte,Nat.reduceEqDiff,Nat.reduceAdd,Nat.reduceSub,Nat.reduceLeDiff,Nat.reduceLT,Nat.reduceBEq,reduceCtorEq,Int.reduceEq];rfl)(h2:plain deep v=true:=by rfl)(h3:R (unr v):=by first | exact Or.inl rfl | exact Or.inr rfl):Q .ret st:=hQ _ _ _ _ (.inr rfl) h1 (hand_plain h2) h3
theorem zf0{rs:List Rv}{R:AV→Prop}{v r:AV}{f:Option Nat}(hQ:Ends2 rs f R Q)(h1:resVs st rs=some v:=by simp only[resVs,omap,resV,wm,↓wk,↓wl,nq,evV,↓reduceIte,sevalprocAttr];rfl)(h2:handOver f st.h v=some r:=by exact hand_k0 (by rfl) (by rfl))(h3:R (unr r):=by first | exact Or.inl rfl | exact Or.inr rfl):Q .ret st:=hQ _ _ _ _ (.inr rfl) h1 h2 h3
theorem zf1{rs:List Rv}{R:AV→Prop}{v r:AV}{f:Option Nat}(hQ:Ends2 rs f R Q)(h1:resVs st rs=some v:=by simp only[resVs,omap,resV,wm,↓wk,↓wl,nq,evV,↓reduceIte,sevalprocAttr];rfl)(h2:handOver f st.h v=some r:=by exact hand_k (by rfl) (by rfl) (by simp) (enc_all _) (by rfl))(h3:R (unr r):=by first | exact Or.inl rfl | exact Or.inr rfl):Q .ret st:=hQ _ _ _ _ (.inr rfl) h1 h2 h3
theorem zf2{rs:List Rv}{R:AV→Prop}{v r:AV}{f:Option Nat}(hQ:Ends2 rs f R Q)(h1:resVs st rs=some v:=by simp only[resVs,omap,resV,wm,↓wk,↓wl,nq,evV,↓reduceIte,sevalprocAttr];rfl)(h2:handOver f st.h v=some r:=by exact hand_1 (by rfl) (by simp) (enc_all _))(h3:R (unr r):=by first | exact Or.inl rfl | exact Or.inr rfl):Q .ret st:=hQ _ _ _ _ (.inr rfl) h1 h2 h3
theorem zu{S E R:Type}{L:Lp S E}{K:E→Option R}{r:R}{x:Ctl S E}{s':S}{st':St}(H:some (Ctl.next s')=some x)(ks live:List Nat)(hc:L.cst s'=st')(e:Ab.restrict ks live st=st':=by simp only[wm,wmr,rrm,↓wk,↓wl,evV,↓reduceIte,sevalprocAttr]<;>rfl)(hnd:ks.Nodup:=by decide):loopQ L 0 K r Q x .normal st:=loopQ.next H (hc ▸ Le.tz ks live e hnd)
theorem zU{S E R:Type}{L:Lp S E}{K:E→Option R}{r:R}{s0:S}{b:C}{st':St}(H:(L.run s0).bind K=some r)(ks live:List Nat)(hc:L.cst s0=st')(hr:∀ s x st0,L.body s=some x→st0=L.cst s→AW P n 0 b (loopQ L 0 K r Q x) st0)(e:Ab.restrict ks live st=st':=by simp only[wm,wmr,rrm,↓wk,↓wl,evV,↓reduceIte,sevalprocAttr]<;>rfl)(hnd:ks.Nodup:=by decide):AW P n 0 (.loop b) Q st:=AW.iter H (hc ▸ Le.tz ks live e hnd) hr
end
section
variable {F:CallF}{is:List Ins}{K:St→Prop}{s:Nat→AV}{h:Hp}{d:Option Nat}{α β : Type}{r : α}
theorem ig{A B:Option α}{b:Bool}(H:(if b=true then A else B)=some r){j:Nat}{w:Bool}{o:Op1}(h1:A=some r→evTs F (Ins.mk d (some (j,w)) o::is) K ⟨put s j (.bool true),h⟩)(h2:B=some r→evTs F (Ins.mk d (some (j,w)) o::is) K ⟨put s j (.bool false),h⟩)(hj:s j=.bool b:=by rfl):evTs F (Ins.mk d (some (j,w)) o::is) K ⟨s,h⟩:=evTs_ifg H hj h1 h2
theorem pu{P:Program}{m:Option β}{kont : β → Option α}(H:m.bind kont=some r){k:Nat}{as':List AV}{enc : β → AV}(spec:∀ {y},m=some y→Pure P k as' (· = enc y)){f:Od}{as:List Od}{caps args:List AV}(hk:∀ y,kont y=some r→evTs (Fn P) is K ⟨put? s d (enc y),h⟩)(hf:f.ev s=.fn k caps:=by rfl)(ha:as.map (Od.ev s)++caps=args:=by rfl)(hpl:plain deep (.tup args)=true:=by rfl)(hu:args.map (unf 12)=as':=by rfl)(hr:∀ y,adopt h (enc y)=some (enc y,h):=by exact fun _=>rfl):evTs (Fn P) (Ins.mk d none (.call f as)::is) K ⟨s,h⟩:=evTs_pure hFn H (fun _ h=>spec h) hf ha hpl hu hr hk
theorem ia{τ : Type}{xs:List τ}{i:Int}{kont : τ → Option α}(enc : τ → AV)(H:(at? xs i).bind kont=some r){e:Nat}{f:Bool}{k:IntKind}{x j:Od}(hk:∀ y,kont y=some r→evTs F is K ⟨put? s d (.pro (enc y).cells),h⟩)(hx:x.ev s=.sl e f (xs.map enc):=by rfl)(hi:j.ev s=.int k i:=by rfl):evTs F (Ins.mk d none (.iaddr e x j)::is) K ⟨s,h⟩:=evTs_at H hx hi hk
theorem ib{xs:List UInt8}{i:Int}{kont:UInt8→Option α}(H:(at? xs i).bind kont=some r){k:IntKind}{x j:Od}(hk:∀ y,kont y=some r→evTs F is K ⟨put? s d (.int .u8 (y.toNat:Int)),h⟩)(hx:x.ev s=.str xs:=by rfl)(hi:j.ev s=.int k i:=by rfl):evTs F (Ins.mk d none (.sidx x j)::is) K ⟨s,h⟩:=evTs_sat H hx hi hk
theorem fl{P:Program}{m:Option β}{kont : β → Option α}(H:m.bind kont=some r){k:Nat}{as':List AV}{enc : β → AV}(spec:∀ {y},m=some y→Pure P k as' (· = enc y)){f:Od}{as:List Od}{caps args ims:List AV}(hk:∀ y,kont y=some r→evTs (Fn P) is K ⟨put? s d (enc y),h⟩)(hf:f.ev s=.fn k caps:=by rfl)(ha:as.map (Od.ev s)++caps=args:=by rfl)(him:imm h deep (.tup args)=some (.tup ims):=by simp only[deep_eq,imm_simps,imm_rowE,imm_ptrE,imm_enc,imm_mrefE,imm_mpE,imm_arowE,omap_simps,take_map_len,take_map_set,take_map_set0,List.length_set,le_refl_true,Nat.zero_add,and_true,true_and,List.drop_zero,Option.map_some,wm,↓wk,↓wl,nq,evV,↓reduceIte,sevalprocAttr];rfl)(hu:ims.map (unf 12)=as':=by rfl)(hfl:∀ y,flat deep (enc y)=true:=by exact fun _=>rfl)(hr:∀ y,adopt h (enc y)=some (enc y,h):=by exact fun _=>rfl):evTs (Fn P) (Ins.mk d none (.call f as)::is) K ⟨s,h⟩:=evTs_flat hFn H (fun _ h=>spec h) hf ha him hu hfl hr hk
theorem sc{τ : Type}{xs:List τ}{a b:Int}{kont:List τ → Option α}(enc : τ → AV)(H:(slc? xs a b).bind kont=some r){e:Nat}{f:Bool}{k k':IntKind}{x:Od}{lo hi:Option Od}(hk:∀ z,kont z=some r→evTs F is K ⟨put? s d (.sl e false (z.map enc)),h⟩)(hx:x.ev s=.sl e f (xs.map enc):=by rfl)(hf:(f && (xs.map enc).isEmpty)=false:=by rfl)(h1:loI s lo=.int k a:=by simp only[loI,hiI,wm,↓wk,↓wl,nq,evV,↓reduceIte,sevalprocAttr];rfl)(h2:hiI s xs.length hi=.int k' b:=by simp only[loI,hiI,wm,↓wk,↓wl,nq,evV,↓reduceIte,sevalprocAttr];rfl):evTs F (Ins.mk d none (.slice e x lo hi)::is) K ⟨s,h⟩:=evTs_slc H hx hf h1 h2 hk
theorem ap{τ : Type}{bytes:Nat}{xs ys:List τ}{kont:List τ → Option α}(enc : τ → AV)(H:(app? bytes xs ys).bind kont=some r){e b m:Nat}{f:Bool}{x y:Od}(hk:∀ z,kont z=some r→evTs F is K ⟨put? s d (.row e h.length 0 z.length),h.set b .dead++[.els e (z.map enc)]⟩)(hx:x.ev s=.row e b 0 m:=by rfl)(hm:m=xs.length:=by first | rfl | simp only[List.length_set])(hb:h[b]? = some (.els e (xs.map enc)):=by rfl)(hy:y.ev s=.sl e f (ys.map enc):=by rfl):evTs F (Ins.mk d none (.append e bytes x y)::is) K ⟨s,h⟩:=evTs_app H hx hm hb hy hk
theorem zw{o:Op1}{v:AV}{h':Hp}(hk:evTs F is K ⟨put? s d v,h'⟩)(hc:o.isCall=false:=by rfl)(hv:evV s h o=some (v,h'):=by simp only[nc,wm,↓wk,↓wl,nqa,evV,↓reduceIte,Nat.reduceEqDiff,Nat.reduceAdd,Nat.reduceSub,Nat.reduceLeDiff,Nat.reduceLT,Nat.reduceBEq,reduceCtorEq,Int.reduceEq,Nat.reduceLeDiff];rfl):evTs F (Ins.mk d none o::is) K ⟨s,h⟩:=evTs_any hc hv hk
end
end Go.Ab
