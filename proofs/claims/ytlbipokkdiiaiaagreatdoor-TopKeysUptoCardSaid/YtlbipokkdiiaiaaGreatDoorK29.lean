/- Lemmas for TopKeysUpto: TopDig, TopHook, TopZero, TopGood, TopCut, TopEnts. -/
import Derived.Test.YtlbipokkdiiaiaaGreatDoorK08
import Derived.KernelRfl
import Derived.Test.YtlbipokkdiiaiaaGreatDoorK28
import Derived.Test.YtlbipokkdiiaiaaGreatDoorK10
import Derived.Test.YtlbipokkdiiaiaaGreatDoorK03
import Derived.Test.YtlbipokkdiiaiaaGreatDoorProg
namespace Go.Proofs.YtlbipokkdiiaiaaGreatDoor
theorem oo (b:List UInt8) (W:List Int):∀n,n≤W.length→(∀k,k<n→W.getD k 0=if k<16 then jV b k else xc (W.take k) k)→aR b n=W.take n
 |0,_,_=>by simp[aR]
 |n+1,hn,h=>by
  have ih:=oo b W n (by omega) fun k hk=>h k (by omega)
  have hw:=h n (by omega)
  rw[aR,ih,←hw,List.take_succ_eq_append_getElem (by omega)]
  congr 2
  simp[List.getD_eq_getElem?_getD,List.getElem?_eq_getElem (show n<W.length by omega)]
theorem nO (ks ws h:List Int) (V:List (List Int)) (h0:V.getD 0 []=h):∀n,(∀k,k<n→V.getD (k+1) []=jo (V.getD k []) (ks.getD k 0) (ws.getD k 0))→bM ks ws h n=V.getD n []
 |0,_=>h0.symm
 |n+1,hs=>by rw[bM,nO ks ws h V h0 n fun k hk=>hs k (by omega),hs n (by omega)]
theorem ju {p:Nat→Bool} {n:Nat} (h:(List.range n).all p=true) (k:Nat) (hk:k<n):p k=true:=List.all_eq_true.1 h k (List.mem_range.2 hk)
def zaD:List UInt8:=[49,10]
def xY:List UInt8:=[49,10,128,0,0,0,0,0,0,0,0,0,0,0,0,0,0,0,0,0,0,0,0,0,0,0,0,0,0,0,0,0,0,0,0,0,0,0,0,0,0,0,0,0,0,0,0,0,0,0,0,0,0,0,0,0,0,0,0,0,0,0,0,16]
def tN:List Int:=[822771712,0,0,0,0,0,0,0,0,0,0,0,0,0,0,16,822771712,655360,269245444,1073742468,2777057552,16951296,2508400609,839565323,4147353784,1209326072,4285967389,2639769934,2226472446,3291279566,1550876586,2210829241,693643171,3089908631,3300181301,101473750,232997355,455503949,2185026618,3669162243,1963400006,3212320996,3609050614,2086431917,3263865664,1126321116,78484490,2950991699,2313548075,2818890939,1130107158,3327463185,3774910632,2558301610,792618127,2172279393,4069691749,23140608,107879201,1040304059,1276219018,3206844830,237440353,3081763272]
def zdf:List (List Int):=[[1779033703,3144134277,1013904242,2773480762,1359893119,2600822924,528734635,1541459225],
 [756222029,1779033703,3144134277,1013904242,3386008226,1359893119,2600822924,528734635],
 [2317473680,756222029,1779033703,3144134277,1451261566,3386008226,1359893119,2600822924],
 [1280893538,2317473680,756222029,1779033703,3295437792,1451261566,3386008226,1359893119],
 [1093595797,1280893538,2317473680,756222029,3147383630,3295437792,1451261566,3386008226],
 [773794123,1093595797,1280893538,2317473680,2480758322,3147383630,3295437792,1451261566],
 [3027731489,773794123,1093595797,1280893538,4110345051,2480758322,3147383630,3295437792],
 [614880939,3027731489,773794123,1093595797,3133068455,4110345051,2480758322,3147383630],
 [2005830592,614880939,3027731489,773794123,2942066208,3133068455,4110345051,2480758322],
 [4255198948,2005830592,614880939,3027731489,2102047284,2942066208,3133068455,4110345051],
 [742159045,4255198948,2005830592,614880939,2652484288,2102047284,2942066208,3133068455],
 [495563485,742159045,4255198948,2005830592,2543219938,2652484288,2102047284,2942066208],
 [350457950,495563485,742159045,4255198948,1468462285,2543219938,2652484288,2102047284],
 [2775188035,350457950,495563485,742159045,4242031346,1468462285,2543219938,2652484288],
 [3645281455,2775188035,350457950,495563485,2622017472,4242031346,1468462285,2543219938],
 [3492190599,3645281455,2775188035,350457950,248507291,2622017472,4242031346,1468462285],
 [31631009,3492190599,3645281455,2775188035,2735631971,248507291,2622017472,4242031346],
 [3354212668,31631009,3492190599,3645281455,2617672734,2735631971,248507291,2622017472],
 [413292597,3354212668,31631009,3492190599,3808997638,2617672734,2735631971,248507291],
 [2121282593,413292597,3354212668,31631009,1037307382,3808997638,2617672734,2735631971],
 [3514521870,2121282593,413292597,3354212668,909528074,1037307382,3808997638,2617672734],
 [17420422,3514521870,2121282593,413292597,3745008321,909528074,1037307382,3808997638],
 [2642429476,17420422,3514521870,2121282593,1098443240,3745008321,909528074,1037307382],
 [1881482514,2642429476,17420422,3514521870,1177524528,1098443240,3745008321,909528074],
 [3663727159,1881482514,2642429476,17420422,2060164498,1177524528,1098443240,3745008321],
 [1333723541,3663727159,1881482514,2642429476,1364901121,2060164498,1177524528,1098443240],
 [2386155583,1333723541,3663727159,1881482514,769732268,1364901121,2060164498,1177524528],
 [1915067104,2386155583,1333723541,3663727159,1321123266,769732268,1364901121,2060164498],
 [2410272320,1915067104,2386155583,1333723541,3186282854,1321123266,769732268,1364901121],
 [2982500669,2410272320,1915067104,2386155583,1013151122,3186282854,1321123266,769732268],
 [1985960875,2982500669,2410272320,1915067104,2684037864,1013151122,3186282854,1321123266],
 [650583734,1985960875,2982500669,2410272320,1669108900,2684037864,1013151122,3186282854],
 [3353560310,650583734,1985960875,2982500669,3226179177,1669108900,2684037864,1013151122],
 [3212971027,3353560310,650583734,1985960875,4012036450,3226179177,1669108900,2684037864],
 [2889564579,3212971027,3353560310,650583734,4085931694,4012036450,3226179177,1669108900],
 [3197709109,2889564579,3212971027,3353560310,715638326,4085931694,4012036450,3226179177],
 [1608621022,3197709109,2889564579,3212971027,377646755,715638326,4085931694,4012036450],
 [3972616582,1608621022,3197709109,2889564579,506229086,377646755,715638326,4085931694],
 [305061962,3972616582,1608621022,3197709109,2908609727,506229086,377646755,715638326],
 [2972201942,305061962,3972616582,1608621022,3548220432,2908609727,506229086,377646755],
 [3538973863,2972201942,305061962,3972616582,4034445135,3548220432,2908609727,506229086],
 [541725358,3538973863,2972201942,305061962,3936017805,4034445135,3548220432,2908609727],
 [3078189315,541725358,3538973863,2972201942,3826704429,3936017805,4034445135,3548220432],
 [1228856944,3078189315,541725358,3538973863,3353786441,3826704429,3936017805,4034445135],
 [973748081,1228856944,3078189315,541725358,3503037096,3353786441,3826704429,3936017805],
 [217378634,973748081,1228856944,3078189315,338555170,3503037096,3353786441,3826704429],
 [3214565820,217378634,973748081,1228856944,1141137161,338555170,3503037096,3353786441],
 [2779113095,3214565820,217378634,973748081,1690617661,1141137161,338555170,3503037096],
 [1311246418,2779113095,3214565820,217378634,2410614301,1690617661,1141137161,338555170],
 [2133253280,1311246418,2779113095,3214565820,1798975720,2410614301,1690617661,1141137161],
 [214370045,2133253280,1311246418,2779113095,4219718741,1798975720,2410614301,1690617661],
 [305596480,214370045,2133253280,1311246418,16027171,4219718741,1798975720,2410614301],
 [3778532501,305596480,214370045,2133253280,1988918311,16027171,4219718741,1798975720],
 [1909522030,3778532501,305596480,214370045,3977259802,1988918311,16027171,4219718741],
 [1727008106,1909522030,3778532501,305596480,3582013256,3977259802,1988918311,16027171],
 [310559441,1727008106,1909522030,3778532501,2414760290,3582013256,3977259802,1988918311],
 [1660983021,310559441,1727008106,1909522030,2017737776,2414760290,3582013256,3977259802],
 [2555929148,1660983021,310559441,1727008106,3115864462,2017737776,2414760290,3582013256],
 [3445733457,2555929148,1660983021,310559441,3419855505,3115864462,2017737776,2414760290],
 [3551049524,3445733457,2555929148,1660983021,3853747548,3419855505,3115864462,2017737776],
 [661242518,3551049524,3445733457,2555929148,2171683721,3853747548,3419855505,3115864462],
 [1402957466,661242518,3551049524,3445733457,3928820556,2171683721,3853747548,3419855505],
 [4075343060,1402957466,661242518,3551049524,3474026620,3928820556,2171683721,3853747548],
 [1584110167,4075343060,1402957466,661242518,3304819517,3474026620,3928820556,2171683721],
 [3645619716,1584110167,4075343060,1402957466,41969940,3304819517,3474026620,3928820556]]
def zeP:List Int:=[67,85,164,107,25,211,72,220,47,87,192,70,248,239,99,212,83,142,187,147,96,0,243,201,238,149,74,39,70,13,216,101]
theorem zdn:fN zaD=xY:=by kernel_rfl
theorem zcA:(List.range 64).all (fun k=>tN.getD k 0==if k<16 then jV xY k else xc (tN.take k) k)=true:=by kernel_rfl
theorem zcN:(List.range 64).all (fun k=>zdf.getD (k+1) []==jo (zdf.getD k []) (bq.getD k 0) (tN.getD k 0))=true:=by kernel_rfl
theorem ze6:aY bq cP (fN zaD)=xq cP (zdf.getD 64 []):=by
 rw[zdn,eO (by decide),cr (by decide)]
 have e1:xY.take 64=xY:=by kernel_rfl
 have e2:jS xY=tN:=by
  have:=oo xY tN 64 (by decide) fun k hk=>by simpa using ju zcA k hk
  exact this.trans (show tN.take 64=tN by kernel_rfl)
 rw[e1,cA,e2,nO bq tN cP zdf (by kernel_rfl) 64 fun k hk=>by simpa using ju zcN k hk]
theorem zcx:dC (aY bq cP (fN zaD)) 32=(zeP.map (Value.int .u8)).toArray:=by
 rw[ze6];kernel_rfl
def zaj:List UInt8:=[49,57,58,114,101,97,100,32,97,10,119,114,105,116,101,32,111,117,116,47,120,10,48,58,51,58,49,58,97,48,58,55,58,53,58,111,117,116,47,120]
def zA:List UInt8:=[49,57,58,114,101,97,100,32,97,10,119,114,105,116,101,32,111,117,116,47,120,10,48,58,51,58,49,58,97,48,58,55,58,53,58,111,117,116,47,120,128,0,0,0,0,0,0,0,0,0,0,0,0,0,0,0,0,0,0,0,0,0,1,64]
def sU:List Int:=[825834098,1700881440,1628075890,1769235744,1869968431,2013933626,859451706,1630550583,976566895,1970548600,2147483648,0,0,0,0,320,3155976446,1529423458,1913553978,798732680,4194055547,626582423,1003548356,581287720,4121772134,1627164699,3080618171,3558021312,3049270835,723411729,3051920293,3864122611,32499666,3209761728,1325605601,1990589563,744377368,3517820710,1300413472,169922665,3713947424,3823951949,1822560244,1726514293,2373921538,1183740914,3204846987,420583275,2157765008,689439068,703416473,2877979960,3164726644,3890784376,471486061,2611054649,891011275,1774673525,2007752774,1190038110,1916679820,2098869186,3908939296,3072988590]
def zb6:List (List Int):=[[1779033703,3144134277,1013904242,2773480762,1359893119,2600822924,528734635,1541459225],
 [759284415,1779033703,3144134277,1013904242,3389070612,1359893119,2600822924,528734635],
 [1028034021,759284415,1779033703,3144134277,1959769244,3389070612,1359893119,2600822924],
 [3756769281,1028034021,759284415,1779033703,868338151,1959769244,3389070612,1359893119],
 [4093607205,3756769281,1028034021,759284415,1204918982,868338151,1959769244,3389070612],
 [3083633817,4093607205,3756769281,1028034021,2096734902,1204918982,868338151,1959769244],
 [4121338540,3083633817,4093607205,3756769281,3218109171,2096734902,1204918982,868338151],
 [2570208650,4121338540,3083633817,4093607205,3467291286,3218109171,2096734902,1204918982],
 [1750762040,2570208650,4121338540,3083633817,1671759937,3467291286,3218109171,2096734902],
 [2824685891,1750762040,2570208650,4121338540,85608249,1671759937,3467291286,3218109171],
 [520707054,2824685891,1750762040,2570208650,2535890805,85608249,1671759937,3467291286],
 [708271649,520707054,2824685891,1750762040,489898356,2535890805,85608249,1671759937],
 [3326917857,708271649,520707054,2824685891,2643321116,489898356,2535890805,85608249],
 [3767338429,3326917857,708271649,520707054,3597555163,2643321116,489898356,2535890805],
 [3692297035,3767338429,3326917857,708271649,3073738771,3597555163,2643321116,489898356],
 [1424937386,3692297035,3767338429,3326917857,1482768549,3073738771,3597555163,2643321116],
 [511922347,1424937386,3692297035,3767338429,1829798290,1482768549,3073738771,3597555163],
 [4047679536,511922347,1424937386,3692297035,630282232,1829798290,1482768549,3073738771],
 [1654700413,4047679536,511922347,1424937386,853147202,630282232,1829798290,1482768549],
 [2019448669,1654700413,4047679536,511922347,1227074046,853147202,630282232,1829798290],
 [1248329055,2019448669,1654700413,4047679536,1527216585,1227074046,853147202,630282232],
 [1766576623,1248329055,2019448669,1654700413,1217442689,1527216585,1227074046,853147202],
 [198904285,1766576623,1248329055,2019448669,2344479355,1217442689,1527216585,1227074046],
 [1701344847,198904285,1766576623,1248329055,843123533,2344479355,1217442689,1527216585],
 [4050043965,1701344847,198904285,1766576623,126575752,843123533,2344479355,1217442689],
 [4251941642,4050043965,1701344847,198904285,1051343520,126575752,843123533,2344479355],
 [3991282909,4251941642,4050043965,1701344847,695376479,1051343520,126575752,843123533],
 [419951564,3991282909,4251941642,4050043965,3154408525,695376479,1051343520,126575752],
 [141903857,419951564,3991282909,4251941642,1954976698,3154408525,695376479,1051343520],
 [2290492173,141903857,419951564,3991282909,3556990915,1954976698,3154408525,695376479],
 [126717408,2290492173,141903857,419951564,2326418464,3556990915,1954976698,3154408525],
 [556408359,126717408,2290492173,141903857,3638045448,2326418464,3556990915,1954976698],
 [3163818014,556408359,126717408,2290492173,846212749,3638045448,2326418464,3556990915],
 [1501183203,3163818014,556408359,126717408,4236490613,846212749,3638045448,2326418464],
 [871809325,1501183203,3163818014,556408359,680683866,4236490613,846212749,3638045448],
 [2470739479,871809325,1501183203,3163818014,3689412829,680683866,4236490613,846212749],
 [3775237526,2470739479,871809325,1501183203,2223848866,3689412829,680683866,4236490613],
 [627401136,3775237526,2470739479,871809325,148545711,2223848866,3689412829,680683866],
 [999154663,627401136,3775237526,2470739479,1021346732,148545711,2223848866,3689412829],
 [4035714311,999154663,627401136,3775237526,2088075504,1021346732,148545711,2223848866],
 [2571041366,4035714311,999154663,627401136,609126754,2088075504,1021346732,148545711],
 [2450361999,2571041366,4035714311,999154663,1859373042,609126754,2088075504,1021346732],
 [2453021572,2450361999,2571041366,4035714311,2532416477,1859373042,609126754,2088075504],
 [3117239419,2453021572,2450361999,2571041366,938718180,2532416477,1859373042,609126754],
 [297958420,3117239419,2453021572,2450361999,1616180296,938718180,2532416477,1859373042],
 [2260058566,297958420,3117239419,2453021572,2581373680,1616180296,938718180,2532416477],
 [1461298341,2260058566,297958420,3117239419,3740015630,2581373680,1616180296,938718180],
 [2661511948,1461298341,2260058566,297958420,710973003,3740015630,2581373680,1616180296],
 [3288812001,2661511948,1461298341,2260058566,219662543,710973003,3740015630,2581373680],
 [3060026164,3288812001,2661511948,1461298341,1139684867,219662543,710973003,3740015630],
 [83266774,3060026164,3288812001,2661511948,3772281633,1139684867,219662543,710973003],
 [454173111,83266774,3060026164,3288812001,4153437757,3772281633,1139684867,219662543],
 [1629075571,454173111,83266774,3060026164,2326817806,4153437757,3772281633,1139684867],
 [2124516507,1629075571,454173111,83266774,3065414531,2326817806,4153437757,3772281633],
 [3112936361,2124516507,1629075571,454173111,103713788,3065414531,2326817806,4153437757],
 [1845959556,3112936361,2124516507,1629075571,2985169455,103713788,3065414531,2326817806],
 [4215778594,1845959556,3112936361,2124516507,34681515,2985169455,103713788,3065414531],
 [452729952,4215778594,1845959556,3112936361,3575857859,34681515,2985169455,103713788],
 [1611470539,452729952,4215778594,1845959556,2307083457,3575857859,34681515,2985169455],
 [1702346702,1611470539,452729952,4215778594,4281226902,2307083457,3575857859,34681515],
 [2535536742,1702346702,1611470539,452729952,2014955747,4281226902,2307083457,3575857859],
 [3059253131,2535536742,1702346702,1611470539,2316431313,2014955747,4281226902,2307083457],
 [79918914,3059253131,2535536742,1702346702,1026148935,2316431313,2014955747,4281226902],
 [2104297526,79918914,3059253131,2535536742,363156714,1026148935,2316431313,2014955747],
 [465012571,2104297526,79918914,3059253131,331796527,363156714,1026148935,2316431313]]
def ze8:List Int:=[133,193,109,194,56,212,182,187,65,50,106,180,91,168,116,197,100,213,34,174,176,170,189,118,92,173,163,242,229,242,188,234]
theorem zcE:fN zaj=zA:=by kernel_rfl
theorem zc8:(List.range 64).all (fun k=>sU.getD k 0==if k<16 then jV zA k else xc (sU.take k) k)=true:=by kernel_rfl
theorem zdq:(List.range 64).all (fun k=>zb6.getD (k+1) []==jo (zb6.getD k []) (bq.getD k 0) (sU.getD k 0))=true:=by kernel_rfl
theorem zex:aY bq cP (fN zaj)=xq cP (zb6.getD 64 []):=by
 rw[zcE,eO (by decide),cr (by decide)]
 have e1:zA.take 64=zA:=by kernel_rfl
 have e2:jS zA=sU:=by
  have:=oo zA sU 64 (by decide) fun k hk=>by simpa using ju zc8 k hk
  exact this.trans (show sU.take 64=sU by kernel_rfl)
 rw[e1,cA,e2,nO bq sU cP zb6 (by kernel_rfl) 64 fun k hk=>by simpa using ju zdq k hk]
theorem zcB:dC (aY bq cP (fN zaj)) 32=(ze8.map (Value.int .u8)).toArray:=by
 rw[zex];kernel_rfl
open Go.Proofs.YtlbipokkdiiaiaaGreatDoor.Exec Go.RowKit
def lJ:List Value→Option (List (List UInt8))
 |[]=>some []
 |.string s::l=>match lJ l with
  |some r=>some (s.data.toList::r)
  |none=>none
 |_=>none
def zbZ (s:List UInt8):Option (List Int):=if s==zaD then some zeP else if s==zaj then some ze8 else none
noncomputable def zdB (b o n c:Nat) (h:H):Option (Value×H):=
 if n==c&&decide (c<1000) then
  match aB Tryz.prog (loadCells ⟨b,o,none⟩ n) h with
  |some (cs,_)=>match lJ cs.toList with
   |some ss=>match zbZ ss.flatten with
    |some d=>some (.agg (d.map (Value.int .u8)).toArray,h)
    |none=>none
   |none=>none
  |none=>none
 else none
noncomputable def hkS:eF:=fun f args h=>if f==36 then some (match args.toList with
 |[.slice (some ⟨b,o,none⟩) n c]=>zdB b o n c h
 |_=>none) else none
theorem Snd.below {m:Bij} {h:H} {W W':World} (hw:bw m h W) (hb:Below W.heap.size W W'):Snd m h W m h W':=by
 refine⟨Bij.le_refl m,⟨fun n o hg=>?_,hw.fresh,fun n b k=>Nat.lt_of_lt_of_le (hw.ran n b k) hb.size,hw.inj,hw.room,hw.le⟩,hb.size,fun b aH _=>hb.block b aH,Nat.le_refl _,rfl,fun _ _ k=>k,fun _ _ k=>.inl k,hb.os,hb.tape,hb.output⟩
 obtain⟨b,o',h1,h2,h3⟩:=hw.obj n o hg
 exact⟨b,o',h1,by rw[hb.block b (hw.ran _ _ h1)];exact h2,h3⟩
theorem xS {m:Bij} {l l':List Value} (hl:cO m l l'):∀{ss},lJ l=some ss→l'=ag ss:=by
 induction hl with
 |nil=>intro ss h;simp only[lJ,Option.some.injEq] at h;subst h;rfl
 |cons hv _ ih=>
  intro ss h
  cases hv<;>first|(simp[lJ] at h;done)|skip
  rename_i s
  simp only[lJ] at h
  split at h
  ·rename_i r hr
   simp only[Option.some.injEq] at h
   subst h
   rw[ih hr]
   simp only[ag,List.map_cons,List.cons.injEq,and_true]
   congr 1
  ·simp at h
theorem zaf {s:List UInt8} {d:List Int} (h:zbZ s=some d):dC (aY bq cP (fN s)) 32=(d.map (Value.int .u8)).toArray∧s.length≤1000:=by
 unfold zbZ at h
 split at h
 ·rename_i e
  obtain rfl:s=zaD:=by simpa using e
  simp only[Option.some.injEq] at h;subst h
  exact⟨zcx,by decide⟩
 ·split at h
  ·rename_i e
   obtain rfl:s=zaj:=by simpa using e
   simp only[Option.some.injEq] at h;subst h
   exact⟨zcB,by decide⟩
  ·simp at h
theorem zbH:gy Tryz.prog hkS:=by
 intro f args h v h' he m W args' ha hw
 unfold hkS at he
 split at he
 ·rename_i hf
  obtain rfl:f=36:=by simpa using hf
  simp only[Option.some.injEq] at he
  split at he
  ·rename_i b o n c hl
   obtain⟨l',rfl,hl'⟩:=cB ha hl
   unfold zdB at he
   split at he
   ·rename_i hc
    simp only[Bool.and_eq_true,beq_iff_eq,decide_eq_true_eq] at hc
    obtain⟨rfl,hc⟩:=hc
    split at he
    ·rename_i cs h1 hr
     split at he
     ·rename_i ss hss
      split at he
      ·rename_i d hd
       simp only[Option.some.injEq,Prod.mk.injEq] at he
       obtain⟨rfl,rfl⟩:=he
       cases hl' with
       |cons q1 q2=>cases q2 with
        |nil=>cases q1 with
         |sliceU _ _ e _ _ _ _=>exact absurd hc (by unfold BIG;omega)
         |slice _ _ _ hp=>cases hp with
          |some hp=>cases hp with
           |@mk _ b' _ _ hb=>
            obtain⟨k1,l2,k2,k3⟩:=fP hr hw (.mk hb)
            have e2:=xS k2 hss
            subst e2
            obtain⟨s1,s2⟩:=zaf hd
            have hsl:ap W 1 (.slice (some ⟨b',o,none⟩) n n) n (ag ss):=by
             refine⟨by rw[←k2.length,k1];simp,some ⟨b',o,none⟩,n,rfl,Nat.le_refl _,by unfold maxLen;omega,fun h=>by simp at h,fun _=>⟨b',o,rfl,hw.ran _ _ hb,fun j u hu=>?_⟩⟩
             have:=k3 j u hu
             rwa [sh] at this
            have hcall:=sM (.slice (some ⟨b',o,none⟩) n n) n ss W hsl (by omega)
            refine(callsIn_wide.2 hcall).mono fun e W' hq=>?_
            obtain⟨rfl,hbel⟩:=hq
            rw[s1]
            refine⟨_,m,rfl,iM ?_,Snd.below hw hbel⟩
            simp[vZ,lP]
      ·simp at he
     ·simp at he
    ·simp at he
   ·simp at he
  ·simp at he
 ·simp at he
end Go.Proofs.YtlbipokkdiiaiaaGreatDoor
namespace Go.Proofs.YtlbipokkdiiaiaaGreatDoor.Exec
theorem qK {α σ:Type} (I:σ→Prop) (f:α→σ→Option (ForInStep σ)) (hf:∀a s r,I s→f a s=some r→I (match r with|.yield s=>s|.done s=>s)):∀(l:List α) (s s':σ),I s→forIn l s f=some s'→I s'
 |[],s,s',h,he=>by simp at he;subst he;exact h
 |a::l,s,s',h,he=>by
  rw[List.forIn_cons] at he
  simp only[Option.bind_eq_bind,Option.bind_eq_some_iff] at he
  obtain⟨r,hr,he⟩:=he
  have:=hf a s r h hr
  cases r with
  |yield s2=>exact qK I f hf l s2 s' this he
  |done s2=>simp at he;subst he;exact this
def Cl (v:Value):Prop:=∀m:Bij,ak m v v
theorem tY {v:Value} (h:Cl v):∀c∈v.cells.toList,Cl c:=by
 intro c hc m
 have hr:=am.of_cells (h m)
 obtain⟨i,hi⟩:=List.getElem?_of_mem hc
 rw[Array.getElem?_toList] at hi
 have:=hr.get i
 rw[hi] at this
 cases this with|some q=>exact q
theorem uZ {c:Array Value} (h:∀x∈c.toList,Cl x):Cl (.agg c):=fun m=>by
 have hr:am m c c:=.of_get rfl fun i v v' h1 h2=>by
  rw[h1] at h2;cases h2
  exact h v (by rw[←Array.getElem?_toList] at h1;exact List.mem_of_getElem? h1) m
 exact .agg rfl hr.at_
theorem xF (info:TypeId→Option TypeInfo) (hinfo:∀t i v,info t=some i→i.zero=some v→Cl v) (fs:Array Field) {i:TypeInfo} {v:Value} (h:Made.reckonStruct info fs=some i) (hv:i.zero=some v):Cl v:=by
 have zstep:∀(z0:Option (Array Value)) (i:TypeInfo) (n:Nat) (t:TypeId),info t=some i→(∀z,z0=some z→∀c∈z.toList,Cl c)→∀z,(if n>Made.mostCells then none else z0.bind fun a=>i.zero.bind fun b=>pure (a++b.cells))=some z→∀c∈z.toList,Cl c:=by
  intro z0 i n t hi h0 z hz c hc
  split at hz
  ·simp at hz
  ·simp only[Option.bind_eq_some_iff,Option.pure_def,Option.some.injEq] at hz
   obtain⟨a,ha,b,hb,rfl⟩:=hz
   rw[Array.toList_append,List.mem_append] at hc
   rcases hc with hc|hc
   ·exact h0 a ha c hc
   ·exact tY (hinfo t i b hi hb) c hc
 unfold Made.reckonStruct at h
 simp only[Option.bind_eq_bind,Option.bind_eq_some_iff] at h
 obtain⟨s,hs,h⟩:=h
 rw[←Array.forIn_toList] at hs
 have hI:=qK (fun s:Array Field×Nat×Nat×Nat×Nat×Bool×Bool×Option (Array Value)×String=>∀z,s.2.2.2.2.2.2.2.1=some z→∀c∈z.toList,Cl c) _ (by
  intro f s r hI hr
  simp only[Option.bind_eq_some_iff] at hr
  obtain⟨i,hi,hr⟩:=hr
  have key:=zstep s.2.2.2.2.2.2.2.1 i (s.2.1+i.size) f.type hi hI
  have last:∀{x:Option String},(x.bind fun tag=>_)=some r→_:=fun{x} (hq:(x.bind fun tag=>
   if i.bytes=0 then
    pure (ForInStep.yield (s.1.push {name:=f.name,type:=f.type,offset:=s.2.1,embedded:=f.embedded,tag:=f.tag,pkgPath:=f.pkgPath,byteOffset:=Made.roundUp s.2.2.1 i.align},
     s.2.1+i.size,Made.roundUp s.2.2.1 i.align+i.bytes,max s.2.2.2.1 i.align,Made.roundUp s.2.2.1 i.align+i.bytes,s.2.2.2.2.2.1||i.hasPointers,s.2.2.2.2.2.2.1&&i.comparable,
     if s.2.1+i.size>Made.mostCells then none else s.2.2.2.2.2.2.2.1.bind fun a=>i.zero.bind fun b=>pure (a++b.cells),
     s.2.2.2.2.2.2.2.2++ " "++f.name++ " "++i.str++tag++if s.1.size+1<fs.size then ";" else ""))
   else
    pure (ForInStep.yield (s.1.push {name:=f.name,type:=f.type,offset:=s.2.1,embedded:=f.embedded,tag:=f.tag,pkgPath:=f.pkgPath,byteOffset:=Made.roundUp s.2.2.1 i.align},
     s.2.1+i.size,Made.roundUp s.2.2.1 i.align+i.bytes,max s.2.2.2.1 i.align,s.2.2.2.2.1,s.2.2.2.2.2.1||i.hasPointers,s.2.2.2.2.2.2.1&&i.comparable,
     if s.2.1+i.size>Made.mostCells then none else s.2.2.2.2.2.2.2.1.bind fun a=>i.zero.bind fun b=>pure (a++b.cells),
     s.2.2.2.2.2.2.2.2++ " "++f.name++ " "++i.str++tag++if s.1.size+1<fs.size then ";" else "")))=some r)=>(by
   simp only[Option.bind_eq_some_iff] at hq
   obtain⟨tag,_,hq⟩:=hq
   by_cases hb:i.bytes=0
   ·rw[if_pos hb] at hq
    simp only[Option.pure_def,Option.some.injEq] at hq;subst hq;exact key
   ·rw[if_neg hb] at hq
    simp only[Option.pure_def,Option.some.injEq] at hq;subst hq;exact key:∀z,(match r with|.yield s=>s|.done s=>s).2.2.2.2.2.2.2.1=some z→∀c∈z.toList,Cl c)
  by_cases h1:i.str.isEmpty=true
  ·rw[if_pos h1] at hr;simp at hr
  ·rw[if_neg h1] at hr
   by_cases h2:f.embedded=true
   ·rw[if_pos h2] at hr;simp at hr
   ·rw[if_neg h2] at hr
    by_cases h3:f.tag.isEmpty=true
    ·rw[if_pos h3] at hr;have hl:=last hr;cases r<;>exact hl
    ·rw[if_neg h3] at hr;have hl:=last hr;cases r<;>exact hl) fs.toList _ s (fun z hz c hc=>by simp only[Option.some.injEq] at hz;subst hz;simp at hc) hs
 have fin:∀z,s.2.2.2.2.2.2.2.1.map Value.agg=some z→Cl z:=by
  intro z hz
  cases hq:s.2.2.2.2.2.2.2.1 with
  |none=>rw[hq] at hz;simp at hz
  |some y=>rw[hq] at hz;simp only[Option.map_some,Option.some.injEq] at hz;subst hz;exact uZ (hI y hq)
 split at h
 all_goals(
  simp only[Option.pure_def,Option.some.injEq] at h
  subst h;exact fin v hv)
theorem yM (info:TypeId→Option TypeInfo) (hinfo:∀t i v,info t=some i→i.zero=some v→Cl v) (d:TypeDesc) {i:TypeInfo} {v:Value} (h:Made.reckon info d=some i) (hv:i.zero=some v):Cl v:=by
 cases d with
 |pointer e=>
  simp only[Made.reckon,Option.bind_eq_bind,Option.bind_eq_some_iff] at h
  obtain⟨j,_,h⟩:=h
  have fin:∀s:String,some (Made.word (.pointer e) s (.pointer none) true)=some i→Cl v:=fun s hs=>by
   simp only[Option.some.injEq] at hs;subst hs
   simp only[Made.word,Option.some.injEq] at hv;subst hv
   exact fun m=>.pointer .none
  split at h
  ·simp at h
  ·split at h
   ·simp at h
   ·simp only[Option.bind_eq_some_iff,Option.pure_def] at h;obtain⟨s,_,h⟩:=h;exact fin _ h
  ·simp only[Option.bind_eq_some_iff,Option.pure_def] at h;obtain⟨s,_,h⟩:=h;exact fin _ h
 |slice e=>
  simp only[Made.reckon,Option.bind_eq_bind,Option.bind_eq_some_iff,Option.pure_def] at h
  obtain⟨j,_,s,_,h⟩:=h
  simp only[Option.some.injEq] at h;subst h
  simp only[Made.word,Option.some.injEq] at hv;subst hv
  exact fun m=>.slice 0 0 (by unfold BIG;omega) .none
 |map k e=>
  simp only[Made.reckon,Option.bind_eq_bind,Option.bind_eq_some_iff,Option.pure_def] at h
  obtain⟨j,_,s,_,j2,_,s2,_,h⟩:=h
  simp only[Option.some.injEq] at h;subst h
  simp only[Made.word,Option.some.injEq] at hv;subst hv
  exact fun m=>.map .none
 |chan dir e=>
  simp only[Made.reckon,Option.bind_eq_bind,Option.bind_eq_some_iff,Option.pure_def] at h
  obtain⟨j,_,s,_,h⟩:=h
  simp only[Option.some.injEq] at h;subst h
  simp only[Made.word,Option.some.injEq] at hv;subst hv
  exact fun m=>.chan
 |func ps rs w=>
  simp only[Made.reckon,Option.bind_eq_bind,Option.bind_eq_some_iff,Option.pure_def] at h
  obtain⟨s,_,h⟩:=h
  simp only[Option.some.injEq] at h;subst h
  simp only[Made.word,Option.some.injEq] at hv;subst hv
  exact fun m=>.nilFunc
 |array n e=>
  simp only[Made.reckon,Option.bind_eq_bind,Option.bind_eq_some_iff,Option.pure_def] at h
  obtain⟨j,hj,s,_,h⟩:=h
  simp only[Option.some.injEq] at h;subst h
  simp only at hv
  split at hv
  ·simp at hv
  ·split at hv
   ·simp only[Option.some.injEq] at hv;subst hv
    exact uZ fun x hx=>by simp at hx
   ·cases hz:j.zero with
    |none=>rw[hz] at hv;simp at hv
    |some z=>
     rw[hz] at hv
     simp only[Option.map_some,Option.some.injEq] at hv;subst hv
     refine uZ fun x hx=>tY (hinfo e j z hj hz) x ?_
     simp at hx
     obtain⟨l,⟨_,rfl⟩,hx⟩:=hx
     exact hx
 |struct fs=>exact xF info hinfo fs h hv
 |_=>simp[Made.reckon] at h
theorem qk (T:Tables) (h0:∀i∈T.types.toList,∀v,i.zero=some v→Cl v):∀f t i v,Made.infoAt T f t=some i→i.zero=some v→Cl v
 |0,t,i,v,h,_=>by simp[Made.infoAt] at h
 |f+1,t,i,v,h,hv=>by
  simp only[Made.infoAt] at h
  split at h
  ·rw[←Array.getElem?_toList] at h
   exact h0 i (List.mem_of_getElem? h) v hv
  ·simp only[Option.bind_eq_some_iff] at h
   obtain⟨d,_,h⟩:=h
   exact yM _ (fun t i v a b=>qk T h0 f t i v a b) d h hv
end Go.Proofs.YtlbipokkdiiaiaaGreatDoor.Exec
namespace Go.Proofs.YtlbipokkdiiaiaaGreatDoor
open Go.Proofs.YtlbipokkdiiaiaaGreatDoor.Exec
set_option maxRecDepth 100000
def wC (v:Value):Bool:=vZ v||(match v with|.tuple c=>c.toList.all vZ|_=>false)
theorem yu {m:Bij} {v:Value} (h:wC v=true):ak m v v:=by
 unfold wC at h
 rcases Bool.or_eq_true_iff.1 h with h|h
 ·exact iM h
 ·cases v with
  |tuple c=>
   have hr:am m c c:=.of_get rfl fun i v v' h1 h2=>by
    rw[h1] at h2;cases h2
    have:v∈c.toList:=by
     rw[←Array.getElem?_toList] at h1
     exact List.mem_of_getElem? h1
    exact iM (List.all_eq_true.1 h v this)
   exact .tuple rfl hr.at_
  |_=>simp at h
theorem yP:Tryz.prog.types.toList.all (fun i=>match i.zero with|some v=>wC v|none=>true)=true:=by kernel_rfl
theorem yX:Tryz.prog.funcs.toList.all (fun f=>!(f.name== "runtime.NumGoroutine"))=true:=by kernel_rfl
theorem mixed:Tryz.prog.follows .mixedOrders=true:=by kernel_rfl
theorem zeQ:Go.Proofs.YtlbipokkdiiaiaaGreatDoor.Exec.Good Tryz.prog:=by
 have h0:∀i∈Tryz.prog.types.toList,∀v,i.zero=some v→Cl v:=fun i hi v hz m=>by
  have h2:=List.all_eq_true.1 yP i hi
  rw[hz] at h2
  exact yu h2
 refine⟨fun t i v hi hz m=>?_,fun f fn hf=>?_⟩
 ·unfold Tables.info? at hi
  split at hi
  ·rw[←Array.getElem?_toList] at hi
   exact h0 i (List.mem_of_getElem? hi) v hz m
  ·exact qk _ h0 _ _ _ _ hi hz m
 ·have:fn∈Tryz.prog.funcs.toList:=by
   rw[←Array.getElem?_toList] at hf
   exact List.mem_of_getElem? hf
  have h2:=List.all_eq_true.1 yX fn this
  simpa using h2
noncomputable section
def kr:List (Nat×bZ)→H→H
 |[],h=>h
 |(n,o)::r,h=>{kr r h with t:=Tr.set D (kr r h).t n (some o)}
structure eA where
 f:FuncId
 args:Array Value
 next:Nat
 hp:List (Nat×bZ)
 v:Value
 k:Nat
def ji (a b:List Value):Bool:=a.length==b.length&&(a.zip b).all fun(x,y)=>jw 3 x y
def nk (a b:bZ):Bool:=
 match a,b with
 |⟨.cells c t fr,g⟩,⟨.cells d u fs,e⟩=>g==e&&t==u&&fr==fs&&ji c.toList d.toList
 |⟨.map c n,false⟩,⟨.map d m,false⟩=>n==m&&ji (c.toList.map (·.key)) (d.toList.map (·.key))&&ji (c.toList.map (·.val)) (d.toList.map (·.val))&&(c.toList.map (·.born))==(d.toList.map (·.born))
 |_,_=>false
def eA.run (e:eA):Bool:=
 match go hkS Tryz.prog (lC hkS Tryz.prog) 2000 (.call e.f e.args) (kr e.hp {t:=.leaf,next:=e.next,lim:=1048576}) with
 |some (.val v,h')=>jw 3 v e.v&&h'.next==e.k&&wC e.v&&e.hp.all fun(n,o)=>(match h'.get n with|some x=>nk x o|none=>false)
 |_=>false
def eA.fits (e:eA) (f:FuncId) (args:Array Value) (h:H):Bool:=
 e.f==f&&e.next==h.next&&h.lim==1048576&&ji e.args.toList args.toList&&e.hp.all fun(n,o)=>decide (n<h.next)&&(match h.get n with|some x=>nk x o|none=>false)
theorem gZ {a b:List Value} (h:ji a b=true):a=b:=by
 unfold ji at h
 simp only[Bool.and_eq_true,beq_iff_eq] at h
 obtain⟨h1,h2⟩:=h
 induction a generalizing b with
 |nil=>cases b<;>simp_all
 |cons x a ih=>
  cases b with
  |nil=>simp at h1
  |cons y b=>
   simp only[List.zip_cons_cons,List.all_cons,Bool.and_eq_true] at h2
   rw[rr 3 h2.1,ih (by simpa using h1) h2.2]
theorem xf:∀{l k:List MapEntry},l.map (·.key)=k.map (·.key)→l.map (·.val)=k.map (·.val)→l.map (·.born)=k.map (·.born)→l=k
 |[],[],_,_,_=>rfl
 |[],_::_,h,_,_=>by simp at h
 |_::_,[],h,_,_=>by simp at h
 |⟨_,_,_⟩::_,⟨_,_,_⟩::_,h1,h2,h3=>by
  simp only[List.map_cons,List.cons.injEq] at h1 h2 h3
  rw[xf h1.2 h2.2 h3.2,h1.1,h2.1,h3.1]
theorem nK {a b:bZ} (h:nk a b=true):a=b:=by
 unfold nk at h
 split at h
 ·simp only[Bool.and_eq_true,beq_iff_eq] at h
  obtain⟨⟨⟨rfl,rfl⟩,rfl⟩,h4⟩:=h
  rw[Array.ext' (gZ h4)]
 ·simp only[Bool.and_eq_true,beq_iff_eq] at h
  obtain⟨⟨⟨rfl,h2⟩,h3⟩,h4⟩:=h
  rw[Array.ext' (xf (gZ h2) (gZ h3) h4)]
 ·simp at h
theorem qZ {next lim:Nat} (hr:lim+2≤2^D) (hl:next≤lim):∀(l:List (Nat×bZ)),(∀p∈l,p.1<next)→(kr l {t:=.leaf,next:=next,lim:=lim}).next=next∧(kr l {t:=.leaf,next:=next,lim:=lim}).lim=lim∧
 ∀n o,(kr l {t:=.leaf,next:=next,lim:=lim}).get n=some o→∃p∈l,p.1=n∧p.2=o
 |[],_=>⟨rfl,rfl,fun n o h=>by unfold H.get kr at h;simp[zfv] at h⟩
 |(a,x)::l,h=>by
  obtain⟨q1,q2,q3⟩:=qZ hr hl l fun p hp=>h p (by simp[hp])
  have ha:a<next:=h (a,x) (by simp)
  refine⟨q1,q2,fun n o hn=>?_⟩
  unfold H.get kr at hn
  simp only[q1] at hn
  split at hn
  ·rename_i aH
   rw[zfu D _ a n (some x) (by omega)] at hn
   split at hn
   ·rename_i e
    simp only[Option.some.injEq] at hn
    exact⟨(a,x),by simp,e.symm,hn⟩
   ·obtain⟨p,h1,h2,h3⟩:=q3 n o (by unfold H.get;rw[q1,if_pos aH];exact hn)
    exact⟨p,by simp[h1],h2,h3⟩
  ·simp at hn
theorem sG {m m':Bij} {h s s':H} {W W':World} (hw:bw m h W) (hn:s.next=h.next) (hl:s.lim=h.lim) (hs:∀n o,s.get n=some o→h.get n=some o) (hk:Snd m s W m' s' W') (hsame:∀n o,s.get n=some o→s'.get n=some o)
 (k:Nat) (hkn:s'.next=h.next+k):Snd m h W m' (mh k h) W':=by
 have hroom:=hw.room
 have hlim:h.next+k≤h.lim:=by
  have:=hk.rel.le
  rw[hk.lim,hl,hkn] at this;exact this
 obtain⟨b1,b2,b3⟩:=l9 k h hroom hlim
 have hfresh:∀n b,m'.r n b→¬m.r n b→h.next≤n:=fun n b h1 h2=>by
  rcases hk.new n b h1 with q|⟨q,_,_⟩
  ·exact absurd q h2
  ·rw[hn] at q;exact q
 have old:∀n,h.get n≠none→∀b,m'.r n b→m.r n b:=fun n hg b hb=>by
  rcases hk.new n b hb with q|⟨q,_,_⟩
  ·exact q
  ·rw[hn] at q;exact absurd (zfJ q) hg
 refine⟨hk.le,⟨fun n o ho=>?_,fun n h1 h2 b hb=>?_,hk.rel.ran,fun n j b h1 h2 g1 g2=>?_,by rw[b2];exact hroom,by rw[b1,b2];exact hlim⟩,hk.size,fun b hb hd=>?_,by rw[b1];omega,b2,fun n _ hd=>by rw[b3];exact hd,fun n b hb=>?_,hk.rest⟩
 ·rw[b3] at ho
  obtain⟨b,o',q1,q2,q3⟩:=hw.obj n o ho
  cases hsn:s.get n with
  |some x=>
   have:x=o:=by have:=hs n x hsn;rw[ho] at this;cases this;rfl
   subst this
   exact hk.rel.obj n x (hsame n x hsn)
  |none=>
   refine⟨b,o',(hk.le _ _ q1).1,?_,q3.mono hk.le q1⟩
   rw[hk.block b (hw.ran _ _ q1) fun j hj=>?_]
   ·exact q2
   ·cases hsj:s.get j with
    |none=>rfl
    |some y=>
     have:=hw.inj j n b hj q1 (by rw[hs j y hsj];simp) (by rw[ho];simp)
     subst this
     rw[hsn] at hsj;simp at hsj
 ·rw[b1,←hkn] at h1
  rw[b2,←hl,←hk.lim] at h2
  exact hk.rel.fresh n h1 h2 b hb
 ·rw[b3] at g1 g2
  exact hw.inj n j b (old n g1 b h1) (old j g2 b h2) g1 g2
 ·refine hk.block b hb fun n hr=>?_
  cases hsn:s.get n with
  |none=>rfl
  |some x=>have:=hd n hr;rw[hs n x hsn] at this;simp at this
 ·rcases hk.new n b hb with q|⟨q1,q2,q3⟩
  ·exact .inl q
  ·refine .inr ⟨by rw[←hn];exact q1,by rw[b1,←hkn];exact q2,?_⟩
   rcases q3 with q3|⟨j,q3,q4⟩
   ·exact .inl q3
   ·cases hsj:s.get j with
    |none=>exact absurd hsj q4
    |some y=>exact .inr ⟨j,q3,by rw[hs j y hsj];simp⟩
theorem eA.ok (e:eA) (hrun:e.run=true) {f:FuncId} {args:Array Value} {h:H} (hf:e.fits f args h=true) {m:Bij} {W:World} {args':Array Value} (ha:am m args args') (hw:bw m h W):
 CallsIn Fence.wide 0 Tryz.prog f args' W (pO m h W e.v (mh (e.k-e.next) h)):=by
 unfold eA.fits at hf
 simp only[Bool.and_eq_true,beq_iff_eq] at hf
 obtain⟨⟨⟨⟨h1,h2⟩,h3⟩,h4⟩,h5⟩:=hf
 subst h1
 have hargs:e.args=args:=Array.ext' (gZ h4)
 have hall:=List.all_eq_true.1 h5
 have aH:∀p∈e.hp,p.1<h.next∧h.get p.1=some p.2:=fun p hp=>by
  have:=hall p hp
  simp only[Bool.and_eq_true,decide_eq_true_eq] at this
  refine⟨this.1,?_⟩
  have h6:=this.2
  split at h6
  ·rename_i x hx;rw[hx,nK h6]
  ·simp at h6
 have hroom:=hw.room
 have hle:=hw.le
 rw[h3] at hroom hle
 obtain⟨p1,p2,p3⟩:=qZ (next:=e.next) (lim:=1048576) (by omega) (by omega) e.hp (fun p hp=>by have:=(aH p hp).1;omega)
 obtain⟨s,hsdef⟩:∃s,s=kr e.hp {t:=.leaf,next:=e.next,lim:=1048576}:=⟨_,rfl⟩
 rw[←hsdef] at p1 p2 p3
 have hsub:∀n o,s.get n=some o→h.get n=some o:=fun n o hn=>by
  obtain⟨p,q1,q2,q3⟩:=p3 n o hn
  rw[←q2,←q3];exact(aH p q1).2
 have hws:bw m s W:=⟨fun n o hn=>hw.obj n o (hsub n o hn),fun n g1 g2=>hw.fresh n (by omega) (by omega),hw.ran,fun n j b g1 g2 g3 g4=>hw.inj n j b g1 g2 (by
  cases hq:s.get n with
  |none=>exact absurd hq g3
  |some x=>rw[hsub n x hq];simp) (by
  cases hq:s.get j with
  |none=>exact absurd hq g4
  |some x=>rw[hsub j x hq];simp),by rw[p2];exact hroom,by rw[p1,p2];omega⟩
 unfold eA.run at hrun
 rw[←hsdef] at hrun
 split at hrun
 ·rename_i v s' hgo
  simp only[Bool.and_eq_true,beq_iff_eq] at hrun
  obtain⟨⟨⟨r1,r2⟩,r3⟩,r4⟩:=hrun
  have hv:=rr 3 r1
  subst hv
  have hcall:=oS zeQ zbH mixed 2000 hgo (hargs▸ha) hws
  refine hcall.mono fun en W' hq=>?_
  obtain⟨v',m',rfl,q1,q2⟩:=hq
  refine⟨v',m',rfl,q1,sG hw (by omega) (by omega) hsub q2 (fun n o hn=>?_) _ ?_⟩
  ·obtain⟨p,z1,z2,z3⟩:=p3 n o hn
   have:=List.all_eq_true.1 r4 p z1
   rw[←z2,←z3]
   split at this
   ·rename_i x hx;rw[hx,nK this]
   ·simp at this
  ·have:=q2.next
   omega
 ·simp at hrun
end
def zey:eA:=⟨22,#[.agg #[.slice (some ⟨0,0,none⟩) 1 1,.slice (some ⟨3,0,none⟩) 1 1,.slice (some ⟨4,0,none⟩) 1 1,.bool true]],13,
 [(0,⟨.cells #[.string ⟨#[97]⟩,.string ⟨#[49,10]⟩] 51 (0,0),false⟩),
  (1,⟨.cells #[.string ⟨#[97]⟩] 9 (0,0),false⟩),
  (2,⟨.cells #[.string ⟨#[111,117,116,47,120]⟩] 9 (0,0),false⟩),
  (3,⟨.cells #[.string ⟨#[]⟩,.string ⟨#[]⟩,.string ⟨#[114,101,97,100,32,97,10,119,114,105,116,101,32,111,117,116,47,120,10]⟩,.slice none 0 0,.slice (some ⟨1,0,none⟩) 1 1,.slice none 0 0,.slice (some ⟨2,0,none⟩) 1 1] 72 (0,0),false⟩),
  (4,⟨.cells #[.string ⟨#[111,117,116,47,120]⟩] 9 (0,0),false⟩)],
 .int .i64 0,115⟩
def zeT:eA:=⟨24,#[.agg #[.string ⟨#[]⟩,.string ⟨#[]⟩,.string ⟨#[114,101,97,100,32,97,10,119,114,105,116,101,32,111,117,116,47,120,10]⟩,.slice none 0 0,.slice (some ⟨1,0,none⟩) 1 1,.slice none 0 0,.slice (some ⟨2,0,none⟩) 1 1]],141,
 [(1,⟨.cells #[.string ⟨#[97]⟩] 9 (0,0),false⟩),
  (2,⟨.cells #[.string ⟨#[111,117,116,47,120]⟩] 9 (0,0),false⟩)],
 .agg #[.int .u8 133,.int .u8 193,.int .u8 109,.int .u8 194,.int .u8 56,.int .u8 212,.int .u8 182,.int .u8 187,.int .u8 65,.int .u8 50,.int .u8 106,.int .u8 180,.int .u8 91,.int .u8 168,.int .u8 116,.int .u8 197,.int .u8 100,.int .u8 213,.int .u8 34,.int .u8 174,.int .u8 176,.int .u8 170,.int .u8 189,.int .u8 118,.int .u8 92,.int .u8 173,.int .u8 163,.int .u8 242,.int .u8 229,.int .u8 242,.int .u8 188,.int .u8 234],285⟩
def ze4:eA:=⟨15,#[.agg #[.int .u8 133,.int .u8 193,.int .u8 109,.int .u8 194,.int .u8 56,.int .u8 212,.int .u8 182,.int .u8 187,.int .u8 65,.int .u8 50,.int .u8 106,.int .u8 180,.int .u8 91,.int .u8 168,.int .u8 116,.int .u8 197,.int .u8 100,.int .u8 213,.int .u8 34,.int .u8 174,.int .u8 176,.int .u8 170,.int .u8 189,.int .u8 118,.int .u8 92,.int .u8 173,.int .u8 163,.int .u8 242,.int .u8 229,.int .u8 242,.int .u8 188,.int .u8 234,.slice (some ⟨779,0,none⟩) 1 1180591620717411303458,.slice (some ⟨794,0,none⟩) 1 1180591620717411303457]],795,
 [(779,⟨.cells #[.string ⟨#[97]⟩,.bool true,.int .u8 67,.int .u8 85,.int .u8 164,.int .u8 107,.int .u8 25,.int .u8 211,.int .u8 72,.int .u8 220,.int .u8 47,.int .u8 87,.int .u8 192,.int .u8 70,.int .u8 248,.int .u8 239,.int .u8 99,.int .u8 212,.int .u8 83,.int .u8 142,.int .u8 187,.int .u8 147,.int .u8 96,.int .u8 0,.int .u8 243,.int .u8 201,.int .u8 238,.int .u8 149,.int .u8 74,.int .u8 39,.int .u8 70,.int .u8 13,.int .u8 216,.int .u8 101] 100 (0,0),true⟩),
  (794,⟨.cells #[.string ⟨#[111,117,116,47,120]⟩,.int .u8 67,.int .u8 85,.int .u8 164,.int .u8 107,.int .u8 25,.int .u8 211,.int .u8 72,.int .u8 220,.int .u8 47,.int .u8 87,.int .u8 192,.int .u8 70,.int .u8 248,.int .u8 239,.int .u8 99,.int .u8 212,.int .u8 83,.int .u8 142,.int .u8 187,.int .u8 147,.int .u8 96,.int .u8 0,.int .u8 243,.int .u8 201,.int .u8 238,.int .u8 149,.int .u8 74,.int .u8 39,.int .u8 70,.int .u8 13,.int .u8 216,.int .u8 101] 54 (0,0),true⟩)],
 .int .i64 0,852⟩
def zeL:eA:=⟨15,#[.agg #[.int .u8 133,.int .u8 193,.int .u8 109,.int .u8 194,.int .u8 56,.int .u8 212,.int .u8 182,.int .u8 187,.int .u8 65,.int .u8 50,.int .u8 106,.int .u8 180,.int .u8 91,.int .u8 168,.int .u8 116,.int .u8 197,.int .u8 100,.int .u8 213,.int .u8 34,.int .u8 174,.int .u8 176,.int .u8 170,.int .u8 189,.int .u8 118,.int .u8 92,.int .u8 173,.int .u8 163,.int .u8 242,.int .u8 229,.int .u8 242,.int .u8 188,.int .u8 234,.slice (some ⟨779,0,none⟩) 1 1180591620717411303458,.slice (some ⟨794,0,none⟩) 1 1180591620717411303457]],865,
 [(779,⟨.cells #[.string ⟨#[97]⟩,.bool true,.int .u8 67,.int .u8 85,.int .u8 164,.int .u8 107,.int .u8 25,.int .u8 211,.int .u8 72,.int .u8 220,.int .u8 47,.int .u8 87,.int .u8 192,.int .u8 70,.int .u8 248,.int .u8 239,.int .u8 99,.int .u8 212,.int .u8 83,.int .u8 142,.int .u8 187,.int .u8 147,.int .u8 96,.int .u8 0,.int .u8 243,.int .u8 201,.int .u8 238,.int .u8 149,.int .u8 74,.int .u8 39,.int .u8 70,.int .u8 13,.int .u8 216,.int .u8 101] 100 (0,0),true⟩),
  (794,⟨.cells #[.string ⟨#[111,117,116,47,120]⟩,.int .u8 67,.int .u8 85,.int .u8 164,.int .u8 107,.int .u8 25,.int .u8 211,.int .u8 72,.int .u8 220,.int .u8 47,.int .u8 87,.int .u8 192,.int .u8 70,.int .u8 248,.int .u8 239,.int .u8 99,.int .u8 212,.int .u8 83,.int .u8 142,.int .u8 187,.int .u8 147,.int .u8 96,.int .u8 0,.int .u8 243,.int .u8 201,.int .u8 238,.int .u8 149,.int .u8 74,.int .u8 39,.int .u8 70,.int .u8 13,.int .u8 216,.int .u8 101] 54 (0,0),true⟩)],
 .int .i64 0,922⟩
def zeJ:eA:=⟨15,#[.agg #[.int .u8 133,.int .u8 193,.int .u8 109,.int .u8 194,.int .u8 56,.int .u8 212,.int .u8 182,.int .u8 187,.int .u8 65,.int .u8 50,.int .u8 106,.int .u8 180,.int .u8 91,.int .u8 168,.int .u8 116,.int .u8 197,.int .u8 100,.int .u8 213,.int .u8 34,.int .u8 174,.int .u8 176,.int .u8 170,.int .u8 189,.int .u8 118,.int .u8 92,.int .u8 173,.int .u8 163,.int .u8 242,.int .u8 229,.int .u8 242,.int .u8 188,.int .u8 234,.slice (some ⟨779,0,none⟩) 1 1180591620717411303458,.slice (some ⟨794,0,none⟩) 1 1180591620717411303457]],970,
 [(779,⟨.cells #[.string ⟨#[97]⟩,.bool true,.int .u8 67,.int .u8 85,.int .u8 164,.int .u8 107,.int .u8 25,.int .u8 211,.int .u8 72,.int .u8 220,.int .u8 47,.int .u8 87,.int .u8 192,.int .u8 70,.int .u8 248,.int .u8 239,.int .u8 99,.int .u8 212,.int .u8 83,.int .u8 142,.int .u8 187,.int .u8 147,.int .u8 96,.int .u8 0,.int .u8 243,.int .u8 201,.int .u8 238,.int .u8 149,.int .u8 74,.int .u8 39,.int .u8 70,.int .u8 13,.int .u8 216,.int .u8 101] 100 (0,0),true⟩),
  (794,⟨.cells #[.string ⟨#[111,117,116,47,120]⟩,.int .u8 67,.int .u8 85,.int .u8 164,.int .u8 107,.int .u8 25,.int .u8 211,.int .u8 72,.int .u8 220,.int .u8 47,.int .u8 87,.int .u8 192,.int .u8 70,.int .u8 248,.int .u8 239,.int .u8 99,.int .u8 212,.int .u8 83,.int .u8 142,.int .u8 187,.int .u8 147,.int .u8 96,.int .u8 0,.int .u8 243,.int .u8 201,.int .u8 238,.int .u8 149,.int .u8 74,.int .u8 39,.int .u8 70,.int .u8 13,.int .u8 216,.int .u8 101] 54 (0,0),true⟩)],
 .int .i64 0,1027⟩
def zeZ:eA:=⟨22,#[.agg #[.slice (some ⟨0,0,none⟩) 1 1,.slice (some ⟨3,0,none⟩) 1 1,.slice (some ⟨4,0,none⟩) 1 1,.bool true]],1110,
 [(0,⟨.cells #[.string ⟨#[97]⟩,.string ⟨#[49,10]⟩] 51 (0,0),false⟩),
  (1,⟨.cells #[.string ⟨#[97]⟩] 9 (0,0),false⟩),
  (2,⟨.cells #[.string ⟨#[111,117,116,47,120]⟩] 9 (0,0),false⟩),
  (3,⟨.cells #[.string ⟨#[]⟩,.string ⟨#[]⟩,.string ⟨#[114,101,97,100,32,97,10,119,114,105,116,101,32,111,117,116,47,120,10]⟩,.slice none 0 0,.slice (some ⟨1,0,none⟩) 1 1,.slice none 0 0,.slice (some ⟨2,0,none⟩) 1 1] 72 (0,0),false⟩),
  (4,⟨.cells #[.string ⟨#[111,117,116,47,120]⟩] 9 (0,0),false⟩)],
 .int .i64 0,1212⟩
def ze0:eA:=⟨24,#[.agg #[.string ⟨#[]⟩,.string ⟨#[]⟩,.string ⟨#[114,101,97,100,32,97,10,119,114,105,116,101,32,111,117,116,47,120,10]⟩,.slice none 0 0,.slice (some ⟨1,0,none⟩) 1 1,.slice none 0 0,.slice (some ⟨2,0,none⟩) 1 1]],1238,
 [(1,⟨.cells #[.string ⟨#[97]⟩] 9 (0,0),false⟩),
  (2,⟨.cells #[.string ⟨#[111,117,116,47,120]⟩] 9 (0,0),false⟩)],
 .agg #[.int .u8 133,.int .u8 193,.int .u8 109,.int .u8 194,.int .u8 56,.int .u8 212,.int .u8 182,.int .u8 187,.int .u8 65,.int .u8 50,.int .u8 106,.int .u8 180,.int .u8 91,.int .u8 168,.int .u8 116,.int .u8 197,.int .u8 100,.int .u8 213,.int .u8 34,.int .u8 174,.int .u8 176,.int .u8 170,.int .u8 189,.int .u8 118,.int .u8 92,.int .u8 173,.int .u8 163,.int .u8 242,.int .u8 229,.int .u8 242,.int .u8 188,.int .u8 234],1382⟩
def zeD:eA:=⟨15,#[.agg #[.int .u8 133,.int .u8 193,.int .u8 109,.int .u8 194,.int .u8 56,.int .u8 212,.int .u8 182,.int .u8 187,.int .u8 65,.int .u8 50,.int .u8 106,.int .u8 180,.int .u8 91,.int .u8 168,.int .u8 116,.int .u8 197,.int .u8 100,.int .u8 213,.int .u8 34,.int .u8 174,.int .u8 176,.int .u8 170,.int .u8 189,.int .u8 118,.int .u8 92,.int .u8 173,.int .u8 163,.int .u8 242,.int .u8 229,.int .u8 242,.int .u8 188,.int .u8 234,.slice (some ⟨1433,0,none⟩) 1 1180591620717411303458,.slice (some ⟨1435,0,none⟩) 1 1180591620717411303457]],1439,
 [(1433,⟨.cells #[.string ⟨#[97]⟩,.bool true,.int .u8 67,.int .u8 85,.int .u8 164,.int .u8 107,.int .u8 25,.int .u8 211,.int .u8 72,.int .u8 220,.int .u8 47,.int .u8 87,.int .u8 192,.int .u8 70,.int .u8 248,.int .u8 239,.int .u8 99,.int .u8 212,.int .u8 83,.int .u8 142,.int .u8 187,.int .u8 147,.int .u8 96,.int .u8 0,.int .u8 243,.int .u8 201,.int .u8 238,.int .u8 149,.int .u8 74,.int .u8 39,.int .u8 70,.int .u8 13,.int .u8 216,.int .u8 101] 100 (0,0),true⟩),
  (1435,⟨.cells #[.string ⟨#[111,117,116,47,120]⟩,.int .u8 67,.int .u8 85,.int .u8 164,.int .u8 107,.int .u8 25,.int .u8 211,.int .u8 72,.int .u8 220,.int .u8 47,.int .u8 87,.int .u8 192,.int .u8 70,.int .u8 248,.int .u8 239,.int .u8 99,.int .u8 212,.int .u8 83,.int .u8 142,.int .u8 187,.int .u8 147,.int .u8 96,.int .u8 0,.int .u8 243,.int .u8 201,.int .u8 238,.int .u8 149,.int .u8 74,.int .u8 39,.int .u8 70,.int .u8 13,.int .u8 216,.int .u8 101] 54 (0,0),true⟩)],
 .int .i64 0,1496⟩
def zaz:List eA:=[zey,zeT,ze4,zeL,zeJ,zeZ,ze0,zeD]
end Go.Proofs.YtlbipokkdiiaiaaGreatDoor
