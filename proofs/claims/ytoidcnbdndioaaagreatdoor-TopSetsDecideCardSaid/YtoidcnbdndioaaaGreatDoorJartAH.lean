/- Part of the proof of laws of relyguardtop. No condition. -/
import Derived.Test.YtoidcnbdndioaaaGreatDoorJartAG
import Derived.Shelf.Sort.Plain
import Derived.Shelf.Slices.In.SortNone
import Derived.Shelf.Slices.CompactI
import Derived.Shelf.Slices.Clone
import Derived.Test.YtoidcnbdndioaaaGreatDoorRows
import Derived.KernelRfl
import Derived.ChangeArms
import GoSem.ClaimJoined
set_option linter.unusedVariables false
set_option linter.unusedSimpArgs false
section
set_option maxRecDepth 100000
set_option maxHeartbeats 4000000
namespace Rg
open Go
def f23:F:=by refine(?f:EF 0xe4cfee9f798529c594326238101da6fc1278cc06b50982b5) _;exact fun c _=>c
def f27:F:=by refine(?f:EF 0x839bbe23ae0cedb269aa557474acb9e083933de3a7148c24a5cb42908dc7) _;exact fun c _=>c
def f47:F:=by refine(?f:EF 0x22418983960ceb3b91d995e4c5cade273ea9e52a10da19267d4c3962f009cd235bfeb322be9bc0164824d2b906186c82a40b2ab70441dc05ece610603beb366771ca209818342e8e9b8eac2f9262439ad4260a1c7) _;exact fun c _=>c
def f51:F:=by refine(?f:EF 0x7dd8fb643fdd7442f4832ab149f98ff90545bc7718a5e70be19cd018647b08c283) _;exact fun c _=>c
def f52:F:=by refine(?f:EF 0x963e59856b2d5d2a514315e7ca8d24406fa794c068fe4efd2f470ae923b308c375c555dc13141cc1470e627094180bd0feb92e2026e69283a7cc12db784dbf2c4c6a05ddce8bfb2f5c5bff54de0dfb66d18875dd725130276a4cfc9041caa6da56df98d6fbde62605e46b5f2334a63d1cca190718584490b2f05e8e97180033c54de8f5c7) _;exact fun c _=>c
def f54:F:=by refine(?f:EF 0x8d21f3a7832f048382ba6688ba9ee1032b5541388ccc3edd0d2c2b52f02d1ac581980033c54db8d0c3) _;exact fun c _=>c
def f55:F:=by refine(?f:EF 0xf3b5c4d45b1c5bd32c0802181e7f0c8f6136e240) _;exact fun c _=>c
def f56:F:=by refine(?f:EF 0x3584f16cf5ec588972c82272a05088d7e233cf6a39676e6a6d2581a5a51599b92394f10e2a642289a4a42485a8b6b0c435440998abab8051cc343d2e4b64e2f9a8801401a59178112d724da32fd09d361a05c9c3abc6adbfdd7b3fcddb42adb5b861116b034a4df1711c123ea726192d789dcf9742887a54417960ed63d45ba728e5d25f8e6faf6f8e2b35c7147a34223e7658e783bd2f733585aeb4861a72f96870812e0a7a3b279e32efe48e128942d6e780a29f43708e4ad1e3402fb1be9e2db1a83ab42f809ed40ed07541aa90852d9) _;exact fun c _=>c
def f60:F:=by refine(?f:EF 0x11fca9c1c95b0c076f46cdaac3b437c18b4f78c1c8d74ac3c74f31f18f0c31d60c1a1f199999999999999999999a3afacf2838a6240ccccccccccccccccccccce3da906dd373f0bc49ecf30ab8c1971309d23d3702e124b5c8edb14fc6) _;exact fun c _=>c
def f61:F:=by refine(?f:EF 0x13955f2307fb6d76a8c00f4b01807201b6000cf1537a281) _;exact fun c _=>c
def f62:F:=by refine(?f:EF 0x13955f2307fbbe76a8c00f4b01807201b6000cf1537a281) _;exact fun c _=>c
def f63:F:=by refine(?f:EF 0x4e353b7b63f16d53b6824da62d087b6e8685427abbff23451fe7af6723fc23c44bedb5ab4e488fca) _;exact fun c _=>c
def f70:F:=by refine(?f:EF 0x5821b2ac39ed94f0f602e694fff9dc5583e9e37cde536e3f848f0238e07f8e0ad0d4c398efc103c2937f55e54fddee0dbec0e5b2b42bf278ef5489a65ed553eacc637c38dff627ceafa3f06b11c3b618d3542030db1b557f81d6ef94b69c1aa90e9c8) _;exact fun c _=>c
def f71:F:=by refine(?f:EF 0x58a97e895e72048c98a1524321c9bdce6f15f64ffe5ce373c56044f641ea19510c934c690db5a0db76e9d490cdd5099674d8ab0b5b6b542685ded924370b1b3f0b4a659fe94b1182d46d53af5ed1c79bbf1db4c957f5a1d9d71fad9b94ca0c8d4f73c4570536fe7be82ceb4bf6115c62ed33c5a1ea03bf8dd0c81ccb84fec00b3d91b05ad464bb100922aad39f440590bc86dc80c288b1e65c3619c8e0eb9abcbf0f8efbdd61388c151c0b0a6387d16d4c4f17d7a1d180c5abcb76595c872dbc6bfb40bafc3786efb03146f08ae7e7fc5f7fe293fcb3f95d8cacf81677801188d68cd4bc46f73d8b610c4862f3df261641697728a3a2c71a80baf9e94f358a96b0e7182e57eaa9a2cdd2dbef5444e9bcef5f0ce068dcc379ae92eb3a88b28ab4b5da3ff7624e78ec788219a27916601fc53f1cc7af2c19db5887154a08484b8db9af21c321afed9a1f5b8ec8e409703ceefb9462ccb18c69e0308c231521b5b20060a8d1ba81b0f3b2f2e37bddee7011e430ccca9bd25fb7c4fa27c8be4dbd83a0fc7aa69b4f4ee017d110d9884b94bf26975f438968c2b6847666a1f3e0788efd4577a011818e508b99ca6c922acaa892277719e461aa308a2d3) _;exact fun c _=>c
def f72:F:=by refine(?f:EF 0x35d77879da45509a99956014d58268ce740013b92f103c1aa608dc5) _;exact fun c _=>c
def f73:F:=by refine(?f:EF 0x458d9313a4709b98581432c33ea2d5ff756c0322d9d4621d0e60e534d758b13b9cfac01d53b93a63b56c2860a57c48590a15edfb2c34484f9343542750becc66dbc845f37a061c3e835757f23a0792289eb8b3ca5565aeb6a2ca39af22f92ceaf7dafffc1ddbae8eedba35bf967e0ca58a9d049b74dedafce17edd3264c0ac5844fe92c865991b1c93cc4258211e4ec464708259f9aa09cb21d28c8a30c3dd59bf667e3f6a0a5b0efb59526a366ee7acead39de11220a5262bd80563eaedc6705a66078eb1ead5a514892878a2b891fec8ee82318d2e15b50ab11f7c0d6baabd1ebd1700e4d3459d23cbf165864b73e831924a17b0abfdcf0d8788d55e4892679e5b70999b8de399964bf7dfd624ab4d4260845d7) _;exact fun c _=>c
def f74:F:=⟨1,true,[],.ext .sortI⟩
def f75:F:=⟨1,true,[],.ext .compactI⟩
def f76:F:=by refine(?f:EF 0xa09fac5d35d606da0ba9e0689ac6a49449944303cb9257f168aa22de0e33bbd41935fc853500cb698f82b287161403327cbc3889fabe1f9d02f04613705fc5) _;exact fun c _=>c
def f77:F:=by refine(?f:EF 0x18aaf3926226a0062f404f053552ebb478138696aade265186f366a21676bf142a609b2d19f035526de81c52c9c81b97c7b9756e29df4126056c9) _;exact fun c _=>c
def f78:F:=by refine(?f:EF 0xd24685d20a2bcea7ca7bb24e677f913ef936f526b27c5904ce2b3ee0ebb13350ad8bcf868b74fe62f0ea69a92ae07e9914e1badb8c6e61a0c4bf4230d2c8) _;exact fun c _=>c
def f91:F:=by refine(?f:EF 0x6c22fc2b410fe5279174a933856f5271754e88467a959faccd1619c7dbf04ca3f5a4eff3dd833e68978540289a061dc2f4467e0e5088480377fea21746a5ffe2e1aa609bc7) _;exact fun c _=>c
def f92:F:=by refine(?f:EF 0x4881324ee1f2278dd348e5cd86a8c244) _;exact fun c _=>c
def f107:F:=by refine(?f:EF 0x322e43c8a4309e7a78224adcaeec9026ebc39bcc285a2260ee3941e0d594584a3ba7944da15623bcb72908ec8) _;exact fun c _=>c
def zLH:F:=by refine(?f:EF 0x3cd1d836b9ead3ba8ebe110556bcbad933c695b345d718f5319eb713137b8f83cf7baede7545c8b2345682e33c5d149b035e9aae37585fb3b108d485740c6627288a5777a07c0d8888f20e85464006dc4) _;exact fun c _=>c
def f144:F:=by refine(?f:EF 0x697a3fe0acbe20747406a8c266) _;exact fun c _=>c
def zMi:F:=⟨1,true,[],.ext .cloneI⟩
def zLG:F:=by refine(?f:EF 0x47c6a217da15b7634b009daa85086a98295) _;exact fun c _=>c
def zLF:F:=by refine(?f:EF 0x9512b4925698dad37634c20890c3f66c32afceffea14293f25f82ae3c8998bc0dd7b52b2bd8afee08bff14a848541aa6093c9) _;exact fun c _=>c
def zMh:F:=by refine(?f:EF 0x13955f2307fc0f76a8c00f4b01807201b6000cf1537a281) _;exact fun c _=>c
def zLE:F:=by refine(?f:EF 0x1347e64d71fafdd039fd34b277d78c5e4660b39acdab75ab104460cee8463e7b90fc4eedd0b01aa308ec3) _;exact fun c _=>c
def zAp:F:=by refine(?f:EF 0x11e3d61ba979880cbfe7466de915b0940d04ca2932202b788061926e0ad75fcf9a0148928e5912516c50c80365c2c95ebf35ebbb316eda0266e06c3c52bb511c8deba7b53d2fd21ea6b05e64c8cca41e3bd9892e48d56a6b33754faa0b9b32ad5ca96d344501aa30e4c9) _;exact fun c _=>c
def zyQ:F:=by refine(?f:EF 0x2416b64644eaed05a98a4fc1ee3df4d11d86e4bfd2fa14ee1dff1dfef742b0906dc091196e1e1189c6174c6c0dd0cd89ad1c810ee4a730aa7c10a8345121aa60dbc2) _;exact fun c _=>c
def zLD:F:=by refine(?f:EF 0xa0908723c505317ff427b7807871e06813e99fdcd605b52603f3c9168b33ba98e3e013aa8fa265c33ccc791c5eb1af4fe389d9d165bfeb33d4e9ef2c6defd607996a51c4bd5e5ac75e5a06422392397762757453f69b71ab8faad57b0035b3e74e666f442ff12e9102cf9485937a903ae40e05b2f6f405456231d6c9d1ef3e0a9ce256068cb20f67e32e1027d8ce430300f32ce28bfb733cd4c4ac1cb742a748cda48234ae53817301aa5064d50a59264a205dae60685a7c5c87120e0128a3580b8d47d656ee024a3c0b97d7769625b43c3d50c832d7fec41a5c7ebc5298df99bcfc53664bbcaea19061b6e99782c24e89ff906af9c0c1a98fce2274f27365bc25085925897520de3a02d25b0267df958f070636b875cd1d0f44e8e716544b7ea23602bbcafabab540a0e592bb6faa77833b50ab8b3a7502a0212eee71a35d3c944e16052fabf75902b44581c20dc9eca32de318b1077af13e451cd4b7dd5e5e1b0ea2ddd32d1b24f72395b4bd0e54ab1be803657ad9adf7546910a3e3af0a4e7b495024b920ebab45e297acc03a6fdb4b051c93feb197599a65ac34ec16d67a61ced19915c66a7e98047df82855b120626912abcb15d7b0bc4e2f322eb56a4225f58c) _;exact fun c _=>c
def zMg:F:=by refine(?f:EF 0x4e9e143f317a746f0039bf89490a12397adc0f52bbc46a0c5002aa555b0c8f6136e283) _;exact fun c _=>c
def zLC:F:=by refine(?f:EF 0xfd7baaa7ff36ee9f1a83e6000cf1536e255) _;exact fun c _=>c
def zLB:F:=by refine(?f:EF 0x57a734c904d51d7d419ec4aea242b5cc450b4a8bf5ea0e817bb0ecb8f03af5d707958351be2ff23cc17acc9589b6ddf1d677456034333e4964bb83e9abceb1e435f8eb00e1ddd6b49f3dcb4aab557bacccf73d7545382e9a634ff3c082b203db876cc4333eacdf47e106c64b51618145f32f00091e94cd5c04d52c5742256b57791735fe90b31f1e3e32cf5b6cc19e5979b949296943974d3497fa2d26b53ff28bcd9e400939247303951ddabfecf431f4c5f30c09542e8e8c060628073916d66fd45b16a1c5f8bccc73ab1d3a4136bda1bb09f146e9011a6006c1daba5aa4d81f692649be2e7519f078db1f898df5d09b0275f1c0114d7582372f805adf399777afdc20264fbe2dbd8b22c74c935630bc2e1a23e2ee844cd1c9392efeeb737a3144ca6ed9ed6af9391838407fec6415354c) _;exact fun c _=>c
def zMf:F:=by refine(?f:EF 0xd43369632364ce6e30200422b8ff4196b58fc3dd0aea9153f3577b6e5d186c63567c2d3b5dfc7c17774f1162eab6bd4613c4a6462a25974035cea8fe20e7319fec7cdbbf7334334e5f1090a9b500a2623df869a9de1ad873fd299e9b93332a06d14209f865adf69ea1feb90edacfd2530520846351fc87d63bbb4fdf5a65858e4d1d92aed2e158c201aab62b20e2410b80454bf041b262b8b79e993244021dc16d693435d7bbbaf0c192c46a046efce2ab16f6e5348f9ba8d4eb57b97a1bd0cf0bacfb735dd2d8b96d3b6b1fd91525c27ba5f657c26e2459a9f564ccdbfe58cafd36161122433e8bf12f2eca85c728b971540bfa22e59032106cd9fb5d96378d78098816407ba4006425b5369ee87c420171d76ae4def3965fe15b7e188ca8a4d47d85598399a3dd3fa5f4127e70ed36d4e2094f5f1f3fb7a222fa42b5d3a27c92d53f3dc25cce9351a6b07af2d2a169a219957b76425ff1ebce48094ddc99451217fdc666b5e945eff18759054b7303bd399525711fef845b04aa3bc63a56130d724abbfd860f2426af9391838407fec641d754c) _;exact fun c _=>c
def zMe:F:=by refine(?f:EF 0x4918822da3c1ec9cb0126e528b772029920f98b25eb7f4801f536eae5ae476eae4a4) _;exact fun c _=>c
def zMd:F:=by refine(?f:EF 0x10d8c17bf082896dd420f509ee571d26fc314e23e1c37196d0991f54e4fda06a3d68884aedae90dc6) _;exact fun c _=>c
def zLA:F:=by refine(?f:EF 0x2600c8caf90aec7ec987d5678cb43e182a42bb1fb261b899df61112ec7a06b9a338d63a5f3298d4d1af4414d5a6098c5) _;exact fun c _=>c
def zMc:F:=by refine(?f:EF 0xe2b8b04177f4959bdca3e90260726f2db9cad38361cc2098bbcad344970a8b679f8d6eb896dfdc1118e8ea0c705bb57567c46eac42c04eb9bc2ab831b6feedbae802db124ebe84db894c4) _;exact fun c _=>c
def zMb:F:=by refine(?f:EF 0x44df9aa66b1926f1480bb97ea9a0e9a7e58eea75fa9a7463eb9d2c148746ed31e2a61e40159cbbc300c405a83e1ae01eacfa476757f752cfaaf18ff00678b13f870acb2b602d19fbc118dc27346cfbcb38a8f2718013e4b11d8c588170222d9dc4acae9be2e94f1ac302eb3bdd5e618c5b88de2b643a8e1cecc10a4c9edde4bee423fba06b6083c63983bb8489e14ff7d54d0f92f225320c370e32239de0fe44d31a5690fd70c2cb05082291b71e5d66ac42bceba61c51a1bee867e0bb7d81a9848a43674fa9b5486561589f488476f234180268840ff3c82d298941390e58570d38a4cde5427cde920628bc3dbd0d51d66a666a26bcc1194f82a6db1d6b8d555d993d185fbfa70ac82f82eb7d68006d232c6be56fe9f84cf6314bd839385c18753782906ca3fa0a08bd8f67a81bc03ea5c09bca5f1ec582d8c2c8a70869c3bc3df1fe7061b60b624f8708f223c5247e9aeac5ba98a1ebab281ded4a15a86fc2951434cef6d45d84ac695d11332327b621be1dd06a8021bb50c) _;exact fun c _=>c
def zLz:F:=by refine(?f:EF 0xe0b92901399b178768b0694216549b8cd5989712ae313f681a8a1f5f42bb6ba4b6) _;exact fun c _=>c
def zHe:C:=(.round (.seq (rF [oM 18 76]) (rF [oM 19 77])) (.block 7 (.seq (rF [oR 78 17,oM 79 18,oM 80 19,o 81 (.call false (.s 78)
 [(.s 79),(.s 80)])]) (.cond (.s 81) (.seq (rF [oM 82 18,oM 83 19,on (.store 1 (.s 4) (ci 2)),oO 1 5 82,oO 1 6 83,on (.store 1 (.s 7) (ci 0))]) .ret) .skip))))
def zLy:F:=⟨84,false,[.h 4 false 1,.h 5 false 1,.h 6 false 1,.h 7 false 1],(.seq (rF [o 3 (.boxH 14 (.s 1)),o 4 (.allocH [zi]),o
 5 (.allocH [zn]),o 6 (.allocH [zn]),o 7 (.allocH [zi])]) (.seq (.seq (rF [oG 20 6 3,oS 21 4 20,oG 22 10 3,oS 23 4 22,o 24 (.bslice 4 2
 [zi,zi,zi,zn] [(0,(.s 21)),(1,(.s 23))]),oN 25 24,oI 26 0]) (.block 0 (.loop (.seq (rF [oC 27 .lss 26 25]) (.seq (.cond (.s 27) .skip
 (.exit 0)) (.seq (.block 1 (.seq (rF [oA 28 4 24 26,oS 29 4 28,o 9 (.allocL [zi,zi,zi,zn]),oP 4 9 29]) (.seq (rF [oF 30 1 9,oL 31 30,
 oD 32 .neq 31 1,oM 33 32,gK 33 false 34 4 9,gM 33 false 35 0,og 33 false 36 (.call false (cf 107) [(.s 34),(.s 35),(cb true)]),gT 33 false
 37 36,oV 38 33 37]) (.cond (.s 38) (.seq (rF [on (.store 1 (.s 4) (ci 0)),on (.store 1 (.s 5) (.c zn)),on (.store 1 (.s 6) (.c zn)),on (.store
 1 (.s 7) (ci 60))]) .ret) .skip)))) (rF [oD 39 .add 26 1,oM 26 39]))))))) (.seq (rF [oS 41 14 3,o 42 (.call false (cf 552) [(.s 41)]),oM 40
 42,oX 43 40 0,oX 44 40 1,oM 10 43,oM 11 44]) (.seq (rF [oI 12 0]) (.seq (.seq (rF [oM 45 10,oM 46 11,o 47 (.bslice 1 2 [zn] [(0,(.s 45)),
 (1,(.s 46))]),oN 48 47,oI 49 0]) (.block 2 (.loop (.seq (rF [oC 50 .lss 49 48]) (.seq (.cond (.s 50) .skip (.exit 2)) (.seq (.block 3 (.seq
 (rF [oA 51 1 47 49,oR 52 51,oM 14 52]) (.seq (rF [oM 53 14,oN 54 53,oI 55 0]) (.block 4 (.loop (.seq (rF [oC 56 .lss 55 54]) (.seq (.cond
 (.s 56) .skip (.exit 4)) (.seq (.block 5 (.seq (rF [oA 57 1 53 55,oR 58 57,oM 16 58]) (rF [oM 59 12,oM 60 0,oM 61 16,oA 62 6 60 61,oG 63
 1 62,oR 64 63,oC 65 .add 59 64,oM 12 65]))) (rF [oD 66 .add 55 1,oM 55 66]))))))))) (rF [oD 67 .add 49 1,oM 49 67]))))))) (.seq (.seq (rF
 [oM 68 12,oD 69 .gtr 68 14]) (.cond (.s 69) (.seq (rF [on (.store 1 (.s 4) (ci 0)),on (.store 1 (.s 5) (.c zn)),on (.store 1 (.s 6) (.c zn)),
 on (.store 1 (.s 7) (ci 2))]) .ret) .skip)) (.seq (rF [o 70 (.mkfn 553 [] [(.s 3)]),o 17 (.allocH [(.t .nilf)]),oO 1 17 70]) (.seq (.seq (rF
 [oM 71 0,oM 72 10,oM 73 11,oM 74 12,o 75 (.call false (cf 554) [(.s 71),(.s 72),(.s 73),(.s 74)])]) (.block 6 (.rangeF (.s 75) [76,77]
 zHe))) (.seq (rF [on (.store 1 (.s 4) (ci 1)),on (.store 1 (.s 5) (.c zn)),on (.store 1 (.s 6) (.c zn)),on (.store 1 (.s 7) (ci 0))]) .ret)))))))))⟩
def zLx:F:=by refine(?f:EF 0x7fc3eabcce1eabd0940efe47e702b767ae47fe150b42bb689350edc2cc9a79faef4f3e36dbddbf2a4c984bd76bf913394d426094cb) _;exact fun c _=>c
def zLw:F:=by refine(?f:EF 0xe0b92901399b1787e0a6042c2aa07b8cd5989712ae313f681a8a1f5f42bb6ba4b6) _;exact fun c _=>c
def zLv:F:=by refine(?f:EF 0xbdb4c01deb7f4dbaf449013db24260f6d41085f43ceb511e9a4c0372a709761fc6ea250d3225b4ce7b9bb61e37ad1d6480fae28b2ec3704863f4eafd37d01aa609ac6) _;exact fun c _=>c
def zLu:F:=by refine(?f:EF 0x3a4d0f9b291c2ff424eea246d8107414b22aadb5d2e67187c5ed5d3325192dafb2b61ec07c1845d8d019a040bddca0b5b6befe9a26ec3704863f4eafd37d01aa609ac6) _;exact fun c _=>c
def zMa:F:=by refine(?f:EF 0xde9ff746a0bd5192013f4af2940c0311d5a29f09a273e11b52e3919d0a1cb56889e980033c54db8cdc4) _;exact fun c _=>c
def zLt:F:=by refine(?f:EF 0x69b88af82e07c83815cc1ab5e92046ec77b0d8893d57a0cbf3f1e7ca4972068e4c2fba904d37ac47f49551699b0fa6be8c964802da5ba80725eb63c04c55111c6c92757c1ce2629521eb84ae7a9fd06b5f9afe7c1c712e16e7c6b6ffeaff6a8a9151e8cbd2be1918a492ea315984932b23413678117177a24a895b61a4160faed0798670f2be4ccddf1dc0627e50b0cbbdef2295d744f4a7084a1ec9d1be490e9c2da01af1776dbe9c4926f11a8be60579e0ed510668afd74cf49dd240bdd3f5a9c054620db3b0bb4aa1c2956abfdad852c80d98a71fd9d68f915658b9605cb321b2f1c50ee57909cedf48a597e5afa55412855e8675fb0da24e69671f571be61ee7a84be1355a138621374ec) _;exact fun c _=>c
def zLs:F:=by refine(?f:EF 0x252357fd94dd4361092d1e28e4750d0cd7ff18358d43b6055abfcfb26e2fb608fa037dc743789dc4ac674c72c07bead533b8f3d5311cf4f46acffa793c47c902ff1fdefa21c6127a408d77d2f66825ffb3c9e653148a42251c945e38475d121d28425c76fef05476e127c9) _;exact fun c _=>c
def zLr:F:=by refine(?f:EF 0x39b386a3a10f21b6d0928f222fa2860a3714ef599223ab48cbc3421626e90525c7db57d208dca96d343541aa3091c9) _;exact fun c _=>c
def zLq:F:=by refine(?f:EF 0x463ae7f72d571a8a74cfb733983c8415adb79f81f14f7d05e8eec999a7c54b18cdc7) _;exact fun c _=>c
def zLp:F:=by refine(?f:EF 0x158e02c27fc2aa03adc4b9158144aba06d21d0c88251acf964d85c89a404bbee6fae4462e12bbf807303346ca262a2c81039ba5e4eda6fa3d2dc423e1d32050d9c97a4e834b081fd6d0dbb167a979f5e1c828e0ac16d76a1d49abef433d823742ef8fffcdcbb7f447118e8aefbd4d4290afcb) _;exact fun c _=>c
def zLo:F:=by refine(?f:EF 0xa7e63defa6f73ec24ea6d020f98a87484953b72938c1ece55e94c29660813f7361a4c5046e4050c5) _;exact fun c _=>c
def zLn:F:=by refine(?f:EF 0x64024eb16bf0ab4e3a707adb500bd7ad2db1c76717f57e93469d8823342f689d605022aeffa41e11936d35a01f057947bae75512103c1c7bc6113c84143c32781b9c247fc4bb83461383f878ae1c0799cc75cf12e2e50cb6f32fe1aa30ddc8) _;exact fun c _=>c
def zL9:F:=by refine(?f:EF 0x4f8abd87209468a0900933032ee6ac485d2e9e21eb9e12264666b14a198cd975c1c9e3571de71ea6a11667386a024ee463cb87a7f7c65a5e533adf8f3b0eccf80136dfcccf758edae91ac9) _;exact fun c _=>c
def zL8:F:=by refine(?f:EF 0x39b386a3a10f21b6d0928f222fa2860a3714ef599223ab48cbc3421626e90525c7db57d208dca96d343541aa3091c9) _;exact fun c _=>c
def zHx:C:=(.round (.seq (rF [oM 8 17]) (rF [oM 9 18])) (.block 1 (rF [oG 19 2 7,oR 20 19,oM 21 8,oM 22 9,o 23 (.build [zi,zi] [(0,
 1,(.s 21)),(1,1,(.s 22))]),o 24 (.bslice 2 1 [zi,zi] [(0,(.s 23))]),o 25 (.append 2 16 (.s 20) (.s 24)),oG 26 2 7,oO 1 26 25])))
def zLm:F:=⟨28,false,[.l 6 true 3],(.seq (rF [o 6 (.allocL [zn,zn,zn])]) (.seq (rF [oM 10 0,o 11 (.fcall (cf 198) [(.s 10)]),oM 12
 1,o 13 (.fcall (cf 198) [(.s 12)]),o 14 (.build [zn,zn,zn] [(0,1,(.s 11)),(1,1,(.s 13))]),o 7 (.allocH [zn,zn,zn]),oO 3 7 14]) (.seq
 (.seq (rF [oM 15 2,o 16 (.call false (cf 578) [(.s 15)])]) (.block 0 (.rangeF (.s 16) [17,18] zHx))) (.seq (rF [oS 27 3 7,oP 3 6 27]) .ret))))⟩
def zL7:F:=by refine(?f:EF 0x3071896a51ac880d66fb4e90aeb4182ad674334b1d29ada7e3860861b4ccf758edae90cc7) _;exact fun c _=>c
def zL6:F:=by refine(?f:EF 0x6d889730d1c8b67f66c09f2b4d4d37cf1761b486bd1496248996ce0a2a283079063bfc1379c970dba18a196a98d5edf86ea088fe5754af5f8e721d906a95da37c4d04d6b79f5d5f4287714d974b1c3a644268af2e3f197b7ae6708adf2c5c12c959dc374e80a70371a3d829a4e1b0320f6e995e5608fe6a4f2b8e25e1ed8ec5d766d34f444d34c8ed81cb866e987db5d425c6e0bb03829e02a47861171a1a9330ea74835852cdc628be98ab5081c171fe4c90d43792a2fe245df18ffca212e7b4593b16b6eea06256498e97e9c0a5a3c2252d4592b623dcc6ae9ae5e70ec391e85e2579700d0e994d4cdcee535bb83b9b51d61c4cc7dddc9f05d889fa4066757e0ba8f117fa8702015f4230863d9) _;exact fun c _=>c
def zL5:F:=by refine(?f:EF 0x244c885a387565a5c46f036b1b916d981411001a0d2ba85e554dd407127dd74e6e2f8054f3b1bb1aab212c501eee8e3d220d72e9d18e8632e6fc8f9573f5ae6929580c03aa1dcb8a7c220a9f81bc49ebf8df74b1bbed9b9e0f259c493ac7a879b7673bc98fb6a225fa894f8ea0ff9c59188557cfccbbbb1ef6fdabfdec19d14fea6388907fb5eedc6bce110227f56a073a94d14d375028797072bf111fb96f42e1042d7d7ca9c4b380c00a26818548f34be762d48c1a8ccac9afc3c83e8357f96ca6a55f7b466692f3d54aa0842d7) _;exact fun c _=>c
def zL4:F:=by refine(?f:EF 0x28fc3bd148f84ed0b3890d0c3bad640d564b8ca2606eef5a411845042e8e999302c986a29589b59230e8954e7e12d26fb13d4d6a17e17641b1ab24ac6bb77e92d357da8b19d1a2dfda92d66e8ad917b30666666666666666666666666666666666666666666666666666666666666664db0eabe8d2f6015f4230ddc7) _;exact fun c _=>c
def zL3:F:=by refine(?f:EF 0x3071896a51ac880d66fb4e90aeb4182ad674334b1d29ada7e3860861b4ccf758edae90cc7) _;exact fun c _=>c
def zL2:F:=by refine(?f:EF 0x10eb7bb2539428a0c1fd2e303139d8029637113852e6f17204e0efb711175642a3a0bdb8743bbcaefbd6103eeaad5de07e68eeb24fd6751c577d29eaf0f647b97d0d6a2a14d5a60a0c8) _;exact fun c _=>c
def zL1:F:=by refine(?f:EF 0x1671b7c4b7a7a7f538522608912023929288b4e59f0151917beb48fc1932a0f9f2bdc8b9f751603426c59dfb5f6d4fcf133a0b17d99ebef196f49b9ebbe9f461bfccc274b7fdac67935baa5b1ecc99c4e45eaf90ee4f8ad6e7e1999a7c54ab8a3c8) _;exact fun c _=>c
def zL0:F:=by refine(?f:EF 0x1ea28aee416664bc997eece63d36f8e26906caf7c92dd3394999db2831b02ac2caee99329bf9a15f2aad3d60b832920d815f423093ca) _;exact fun c _=>c
def zLZ:F:=by refine(?f:EF 0x1c356ab5fca5cfb67824c9e315a6217654ea477c6d6d2326567dacf6cadfafba213ee6151db396271ded858647afd005c75db0d48acff6464ba5c4c6c70e15c8df96c7226c26d03a10656dfd00a9ece3ab44d386efa0aa046f99b98b29a84ae89ec7) _;exact fun c _=>c
def zLl:F:=by refine(?f:EF 0xbab43f4d0b61bfb1bc60d75174ebdf335e3b60511053af2ad847bfd918a6edda8f4a79d4a28d83ea3f559a47f12595ad4c52dd0a32b89a520f31642afa1dbc25c7dd3fc67742be9ee3c0b57b015f4230a6c4) _;exact fun c _=>c
def zLY:F:=by refine(?f:EF 0x53af73d41242b795191abae025cb42b78128e6728fbbbf0d6e6055c906174938889af379d17d04fca79f44371e83549099f138a32a72d880139219a58a90170e43cd8e0bcb96f0b573b501896659bf7f593dfce19eca284a6557c42fc13c93c243aa31bca826946980033c54e18a8c9) _;exact fun c _=>c
def zLX:F:=by refine(?f:EF 0x12e4ed8d8c6f3874431a225ca93c9d47e8cafe673a5ba8df54af56a33d11ff507e13aa4bb6ec037905fdc6817f7485b1762a35ebddcf6abd9c7602bfd938ae0ac7528c6ce7cc7c23315c1e8bfd2c0948b0b5f6bb7f9966a277dffcc26e042da72d70fbe5218c9f207b61f03621ba94b7ec260b740fef81ed286a09f49e83a0109a60dac955949561b522c9a1fc2e571e7bf783caaec3e7ad4260bcca) _;exact fun c _=>c
def zLW:F:=by refine(?f:EF 0x6d6ce2434d60f5780edde02c95a8c144d5a9deb3d3e5931bea5bf5da6aef94aed257f3b448e3189c5e5937f4c08309c830cfb23d74d4acfb825a9102eb56a426f0ec) _;exact fun c _=>c
def zLk:F:=by refine(?f:EF 0x3db22d8ca221aa4b36b64ab6d7568f7015472dc8b93ed809205110857148d6b5298791ed5a934924f97f9a49f9b74629d14a3c866e11f3da9348f94d5064d8ab34d44e97b4a36d13d42f4dcd7356a9c5db8b27809614b821d1497a450f9e1e66a70ff333333333333333333333333333333333332c15d4202e0f37d7ce9a8a10c1456b560d999999999999999999999999999999999999901d94c04878caf5434ea4360efcba7eef43d5f61b7a23886e940c8b7bbc18fa495e4590cbcdfc6d572179001a1606bb78f77be54391dc40dc003a6aea235168bc63209d655a9669463cfa2590bb0fd0affb193ecb) _;exact fun c _=>c
def zLj:F:=by refine(?f:EF 0x23e463c695804ed4b27206a98285) _;exact fun c _=>c
def zLi:F:=by refine(?f:EF 0xd566b83f3a8f5dc1c368a3940a6b70975a46ec1dce24ce9488941f6688730ee148f07082a47734e26254e1e9a478a6de637216a87081a254801c4ec010a3e0edb11ac9) _;exact fun c _=>c
def zLh:F:=by refine(?f:EF 0x4ed43d2046f88c6a6f77a76229bb9270a2564f91593dfa1f41679299dc1ba0f1dc21d45de0f4e1aa7894c3) _;exact fun c _=>c
def zLg:F:=by refine(?f:EF 0x3408400b608bfc7ecc97901c4be4a037299f809c2ae2b02a7) _;exact fun c _=>c
def zLf:F:=by refine(?f:EF 0x27fb53e8a48b2c82a7c176d61374934d56f4f3213dd0f0a9b23b4fe205c9e81463ecb554ed8b417565475c17b11808724d80b2258632477b2fa187d6f046bd252e031246a88a5e567dad2bc27c56b009750d31569499500ef538228d68fe903ba9ad60cafc878f2bfdffd9520044c70ec) _;exact fun c _=>c
def zLe:F:=by refine(?f:EF 0xeac88ee380164f0475e196f207184ae699dee3ef075ba08d818c04219a5bab8fe5dcb4012b38ec7e6cad71ffb13461aad6850589a847854c49275cb2b0ee92e7b25217d6621f2085c31a73f9dd597296dc61f5d1d13cad1d55a5a9d6b78f759500671c30761c47629e8c45f56043e74d4260afca) _;exact fun c _=>c
def zLd:F:=by refine(?f:EF 0x871f8b25bba5804ed4b20f06a98285) _;exact fun c _=>c
def zLc:F:=by refine(?f:EF 0x82ae710f8422ed694a30e02ddbffa4fccd0366a5af89bdef0759c155f765e799be92039ba8da9ce6ab0a7be501e9db2b9e6340aeccf3352f8c3481aa6094c7) _;exact fun c _=>c
def zLb:F:=by refine(?f:EF 0x23e462b895804ed4b27206a98285) _;exact fun c _=>c
def zLa:F:=by refine(?f:EF 0x31e6b199762215d77e837806a113ef93406fd08c2a3) _;exact fun c _=>c
def zK9:F:=by refine(?f:EF 0x7267b0323681bdeab820ea8f4cecf023b46558de3301ad42608ec5) _;exact fun c _=>c
def zK8:F:=by refine(?f:EF 0x13955f2307fb6d76a8c00f4b01807201b6000cf1537a281) _;exact fun c _=>c
def zK7:F:=by refine(?f:EF 0x19abc7595b617afe25242848e5eb703d4aef127a31400aa9556dfa136e283) _;exact fun c _=>c
def zK6:F:=by refine(?f:EF 0x3bd3b42e3e9f45442ab73a9c0db945e0d6cb43a21f8dd3c8c8e7dee8b71ead595a4ed5c4bb458f8312605bd60e96edf0f842a0686624e37feb170666dfb37dde95c20070ff0180033c54de898c8) _;exact fun c _=>c
def zK5:F:=by refine(?f:EF 0x1730e2bfcf86dd92227148087e7ea3e99149d88f362b612946a3168198cd2a636fd6ad3802b6) _;exact fun c _=>c
def zK4:F:=by refine(?f:EF 0x1bf23adec85c143833b04382b69b617828d43c198f376d0d4c5052b66e64552c35c3a71fd561ffcff49374487de645123b72aef1c1aa3094c4) _;exact fun c _=>c
def zK3:F:=by refine(?f:EF 0x602bb2b61ef06727b26288576745b3875a718e82167f182323423f8fce14b37eb9685618909bfff7e509bc008ff8c22d026a7479f602ec164f78217c97dda36256b8fd48834e11509376c0b5d178394505f548d0724dba1a017acb0bfea21746a621a2e1aa60adc7) _;exact fun c _=>c
def zK2:F:=by refine(?f:EF 0xb3d9ce3e3a4cb391e58569d12cd7ee013c987012abb617fe02015f42308ec9) _;exact fun c _=>c
def zK1:F:=by refine(?f:EF 0x68a3610911c02a78006647b08c243) _;exact fun c _=>c
def zLV:F:=by refine(?f:EF 0x3b88082ba7649d99791c30f74d4e10eb3f9bc9b218c82cf5d62254b3f253a8a05984b8b02b18085283c2fca309f1a102df5507be5d67dd40a5849f2910f0addf50f7fd4b64efc3477348df66a9be364988931f126e5b08484aaf56d86992192dd7d8cb453efb4d67ee398abf0547d2202fda29ceb41706cda11e96d5c4364eb96f3a3bafd4094dae62961a112aeff9b2d0fc1af5cd4a816f69ceecdb0b7fdcb0ab923250269dd01897ea5c29c5e1da5315e2e760280fdb07f1f37d05277792f7980033c54e18844da) _;exact fun c _=>c
def zLU:F:=by refine(?f:EF 0xb7222526ab2f313bbbdd906a8c353) _;exact fun c _=>c
def zLT:F:=by refine(?f:EF 0x2d9cfbdd4957af4417d370076920c280682adca4385) _;exact fun c _=>c
def zK0:F:=by refine(?f:EF 0x4855ab68fb18fa673e6b06d93808c1d96b31e7d8109beb69d7c0dd9dacdd7b52b2bd8afee08bff14a8427ffffffffffffffffffffffffffffffffffffffffffffffffffffffffffffffe79a31d3b3333333333333333333333333333333333333333333333333333333333333330c27f150c28b890c9) _;exact fun c _=>c
def zKZ:F:=by refine(?f:EF 0x17f069c2c7d7f4e757a6bb723c6d00087bb0db418732c01a16b217e9641a1aa608ec6) _;exact fun c _=>c
def zKY:F:=by refine(?f:EF 0x2f177d6171b294add970a98c39bb47d5dd2714240ecec88a4ec9e7bb8ae49e0901596ce7cedeb1beb7f0d6531627c0b54db38114ef5f3ecce7988f13b883a2301e0d6a6de035ffa183aa9df932dbeb37c4e883a30f3a9f99b70056870dc87434e7a03dea9d5bc7a051197b1b7eff32373642acc0026b61285717221701ceeeef080b9ed707f02d8c1866be34b0f29d7a61eec7e023e7aba0e10d3ff0f4ec5026b7b0d9ba20c62a4282e7f8252fd6f4efd1a8374b76b16223abcbc62142255c5713071976cd1b1dcd46ec480b0b69ba8ef0e910011534ec) _;exact fun c _=>c
def zKX:F:=by refine(?f:EF 0x2524d134b39dc8e8473de0cecbcf19699df84866de947761c25e212bd4cf52d40251b46dadb41c0ed7c1b8c7c5fbcca4edcd00868a961656d80495c4b1bed9a752e9e77abed28c658d71bf9ba582ffeef2a069bda1605ec8) _;exact fun c _=>c
def zKT:C:=(.round (rF [o 5 (.allocH [zi,zn]),oO 2 5 7]) (.block 1 (rF [oR 8 2,oS 9 2 5,o 10 (.bslice 2 1 [zi,zn] [(0,(.s 9))]),
 o 11 (.append 2 32 (.s 8) (.s 10)),oO 1 2 11])))
def zLS:F:=⟨13,true,[.s 4],(.seq (rF [o 2 (.boxH 1 (.s 0)),o 4 (.mv (.c zn))]) (.seq (.seq (rF [oM 6 1]) (.block 0 (.rangeF (.s 6) [7]
 zKT))) (.seq (rF [oR 12 2,oM 4 12]) .ret)))⟩
def zLR:F:=by refine(?f:EF 0x61895b0463a8ab1580ca9ebe43ee41af4c78ddd06816f8675071bcac18b9642f12a303dca09dc415545763440f852357a59577aeaef5d7b78755de59a367c0c4a399f230afb01f70697184d7a1e2cfe24db8ceece401d157728747d78b833112a3761544d466ae662283863f681d83cdbda69371f39eef3d861756fc564cac9b08abcae0ae5eaf204eac6635d4b89b233ae5da404a0e079cb) _;exact fun c _=>c
end Rg
end
section
set_option maxRecDepth 20000
namespace Rg
open Go
def zBg:List (Nat×F):=[(23,f23),
 (27,f27),
 (47,f47),
 (51,f51),
 (52,f52),
 (54,f54),
 (55,f55),
 (56,f56),
 (60,f60),
 (61,f61),
 (62,f62),
 (63,f63),
 (70,f70),
 (71,f71),
 (72,f72),
 (73,f73),
 (74,f74),
 (75,f75),
 (76,f76),
 (77,f77),
 (78,f78),
 (91,f91),
 (92,f92),
 (107,f107),
 (136,zLH),
 (144,f144),
 (198,zMi),
 (206,zLG),
 (207,zLF),
 (238,zMh),
 (280,zLE),
 (350,zAp),
 (368,zyQ),
 (502,zLD),
 (507,zMg),
 (508,zLC),
 (509,zLB),
 (510,zMf),
 (511,zMe),
 (512,zMd),
 (513,zLA),
 (514,zMc),
 (516,zMb),
 (517,zLz),
 (518,zLy),
 (519,zLx),
 (520,zLw),
 (522,zLv),
 (524,zLu),
 (526,zMa),
 (527,zLt),
 (528,zLs),
 (529,zLr),
 (530,zLq),
 (531,zLp),
 (532,zLo),
 (533,zLn),
 (534,zL9),
 (535,zL8),
 (536,zLm),
 (537,zL7),
 (538,zL6),
 (539,zL5),
 (540,zL4),
 (541,zL3),
 (542,zL2),
 (543,zL1),
 (544,zL0),
 (545,zLZ),
 (546,zLl),
 (547,zLY),
 (548,zLX),
 (549,zLW),
 (550,zLk),
 (551,zLj),
 (552,zLi),
 (553,zLh),
 (554,zLg),
 (555,zLf),
 (556,zLe),
 (557,zLd),
 (558,zLc),
 (559,zLb),
 (568,zLa),
 (569,zK9),
 (570,zK8),
 (571,zK7),
 (573,zK6),
 (574,zK5),
 (575,zK4),
 (576,zK3),
 (577,zK2),
 (578,zK1),
 (579,zLV),
 (580,zLU),
 (581,zLT),
 (582,zK0),
 (583,zKZ),
 (584,zKY),
 (588,zKX),
 (589,zLS),
 (590,zLR)]
def Γ:Nat->Option F:=fun k=>zBg.lookup k
def G:Nat->List T
 | 0=>[.int .i64 0,.int .i64 1,.int .i64 3,.int .i64 7,.int .i64 15,.int .i64 31,.int .i64 63,.int .i64 127,.int .i64 255]
 | 3=>[.int .u8 0,.int .u8 1,.int .u8 56,.int .u8 2,.int .u8 57,.int .u8 49,.int .u8 28,.int .u8 3,.int .u8 61,.int .u8 58,.int .u8 42,.int .u8 50,.int .u8 38,.int .u8 29,.int .u8 17,.int .u8 4,.int .u8 62,.int .u8 47,.int .u8 59,.int .u8 36,.int .u8 45,.int .u8 43,.int .u8 51,.int .u8 22,.int .u8 53,.int .u8 39,.int .u8 33,.int .u8 30,.int .u8 24,.int .u8 18,.int .u8 12,.int .u8 5,.int .u8 63,.int .u8 55,.int .u8 48,.int .u8 27,.int .u8 60,.int .u8 41,.int .u8 37,.int .u8 16,.int .u8 46,.int .u8 35,.int .u8 44,.int .u8 21,.int .u8 52,.int .u8 32,.int .u8 23,.int .u8 11,.int .u8 54,.int .u8 26,.int .u8 40,.int .u8 15,.int .u8 34,.int .u8 20,.int .u8 31,.int .u8 10,.int .u8 25,.int .u8 14,.int .u8 19,.int .u8 9,.int .u8 13,.int .u8 8,.int .u8 7,.int .u8 6]
 | _=>[]
theorem Γ23:Γ 23=some f23:=by rfl
theorem Γ27:Γ 27=some f27:=by rfl
theorem Γ47:Γ 47=some f47:=by rfl
theorem Γ51:Γ 51=some f51:=by rfl
theorem Γ52:Γ 52=some f52:=by rfl
theorem Γ54:Γ 54=some f54:=by rfl
theorem Γ55:Γ 55=some f55:=by rfl
theorem Γ56:Γ 56=some f56:=by rfl
theorem Γ60:Γ 60=some f60:=by rfl
theorem Γ61:Γ 61=some f61:=by rfl
theorem Γ62:Γ 62=some f62:=by rfl
theorem Γ63:Γ 63=some f63:=by rfl
theorem Γ70:Γ 70=some f70:=by rfl
theorem Γ71:Γ 71=some f71:=by rfl
theorem Γ72:Γ 72=some f72:=by rfl
theorem Γ73:Γ 73=some f73:=by rfl
theorem Γ74:Γ 74=some f74:=by rfl
theorem Γ75:Γ 75=some f75:=by rfl
theorem Γ76:Γ 76=some f76:=by rfl
theorem Γ77:Γ 77=some f77:=by rfl
theorem Γ78:Γ 78=some f78:=by rfl
theorem Γ91:Γ 91=some f91:=by rfl
theorem Γ92:Γ 92=some f92:=by rfl
theorem Γ107:Γ 107=some f107:=by rfl
theorem Γ136:Γ 136=some zLH:=by rfl
theorem Γ144:Γ 144=some f144:=by rfl
theorem Γ198:Γ 198=some zMi:=by rfl
theorem Γ206:Γ 206=some zLG:=by rfl
theorem Γ207:Γ 207=some zLF:=by rfl
theorem Γ238:Γ 238=some zMh:=by rfl
theorem Γ280:Γ 280=some zLE:=by rfl
theorem Γ350:Γ 350=some zAp:=by rfl
theorem Γ368:Γ 368=some zyQ:=by rfl
theorem Γ502:Γ 502=some zLD:=by rfl
theorem Γ507:Γ 507=some zMg:=by rfl
theorem Γ508:Γ 508=some zLC:=by rfl
theorem Γ509:Γ 509=some zLB:=by rfl
theorem Γ510:Γ 510=some zMf:=by rfl
theorem Γ511:Γ 511=some zMe:=by rfl
theorem Γ512:Γ 512=some zMd:=by rfl
theorem Γ513:Γ 513=some zLA:=by rfl
theorem Γ514:Γ 514=some zMc:=by rfl
theorem Γ516:Γ 516=some zMb:=by rfl
theorem Γ517:Γ 517=some zLz:=by rfl
theorem Γ518:Γ 518=some zLy:=by rfl
theorem Γ519:Γ 519=some zLx:=by rfl
theorem Γ520:Γ 520=some zLw:=by rfl
theorem Γ522:Γ 522=some zLv:=by rfl
theorem Γ524:Γ 524=some zLu:=by rfl
theorem Γ526:Γ 526=some zMa:=by rfl
theorem Γ527:Γ 527=some zLt:=by rfl
theorem Γ528:Γ 528=some zLs:=by rfl
theorem Γ529:Γ 529=some zLr:=by rfl
theorem Γ530:Γ 530=some zLq:=by rfl
theorem Γ531:Γ 531=some zLp:=by rfl
theorem Γ532:Γ 532=some zLo:=by rfl
theorem Γ533:Γ 533=some zLn:=by rfl
theorem Γ534:Γ 534=some zL9:=by rfl
theorem Γ535:Γ 535=some zL8:=by rfl
theorem Γ536:Γ 536=some zLm:=by rfl
theorem Γ537:Γ 537=some zL7:=by rfl
theorem Γ538:Γ 538=some zL6:=by rfl
theorem Γ539:Γ 539=some zL5:=by rfl
theorem Γ540:Γ 540=some zL4:=by rfl
theorem Γ541:Γ 541=some zL3:=by rfl
theorem Γ542:Γ 542=some zL2:=by rfl
theorem Γ543:Γ 543=some zL1:=by rfl
theorem Γ544:Γ 544=some zL0:=by rfl
theorem Γ545:Γ 545=some zLZ:=by rfl
theorem Γ546:Γ 546=some zLl:=by rfl
theorem Γ547:Γ 547=some zLY:=by rfl
theorem Γ548:Γ 548=some zLX:=by rfl
theorem Γ549:Γ 549=some zLW:=by rfl
theorem Γ550:Γ 550=some zLk:=by rfl
theorem Γ551:Γ 551=some zLj:=by rfl
theorem Γ552:Γ 552=some zLi:=by rfl
theorem Γ553:Γ 553=some zLh:=by rfl
theorem Γ554:Γ 554=some zLg:=by rfl
theorem Γ555:Γ 555=some zLf:=by rfl
theorem Γ556:Γ 556=some zLe:=by rfl
theorem Γ557:Γ 557=some zLd:=by rfl
theorem Γ558:Γ 558=some zLc:=by rfl
theorem Γ559:Γ 559=some zLb:=by rfl
theorem Γ568:Γ 568=some zLa:=by rfl
theorem Γ569:Γ 569=some zK9:=by rfl
theorem Γ570:Γ 570=some zK8:=by rfl
theorem Γ571:Γ 571=some zK7:=by rfl
theorem Γ573:Γ 573=some zK6:=by rfl
theorem Γ574:Γ 574=some zK5:=by rfl
theorem Γ575:Γ 575=some zK4:=by rfl
theorem Γ576:Γ 576=some zK3:=by rfl
theorem Γ577:Γ 577=some zK2:=by rfl
theorem Γ578:Γ 578=some zK1:=by rfl
theorem Γ579:Γ 579=some zLV:=by rfl
theorem Γ580:Γ 580=some zLU:=by rfl
theorem Γ581:Γ 581=some zLT:=by rfl
theorem Γ582:Γ 582=some zK0:=by rfl
theorem Γ583:Γ 583=some zKZ:=by rfl
theorem Γ584:Γ 584=some zKY:=by rfl
theorem Γ588:Γ 588=some zKX:=by rfl
theorem Γ589:Γ 589=some zLS:=by rfl
theorem Γ590:Γ 590=some zLR:=by rfl
end Rg
end
section
namespace Rg
open Go Go.Sort Go.Shelf
theorem zcU: ∀{rs:List (List V)} {zs:List Int},zd2 rs=some zs->rs.length=zs.length/\ ∀(i:Nat) (z:Int),zs[i]? =some z->rs[i]? =some [.t (.int .i64 z)]
 | [],zs,h=>by simp only[zd2,zA]at h;subst h;simp
 | row::r,zs,h=>by
   unfold zd2 at h;split at h
   ·rename_i h0;simp at h0
   ·rename_i z r' h0;simp only[List.cons.injEq]at h0;obtain⟨rfl,rfl⟩:=h0;rw[zE]at h;obtain⟨zs',hz,rfl⟩:=h;obtain⟨h1,h2⟩:=zcU hz;refine⟨by simp[h1],fun i z' hi=> ?_⟩
    cases i with
    | zero=>simp at hi;subst hi;rfl
    | succ i=>simpa using h2 i z' (by simpa using hi)
   ·cases h
theorem zmD (c:Array Value) (ys:List Int) (j:Nat):(putCells (Value.int .i64) 0 ys.toArray c)[j]? =(c[j]?).map fun x=>match ys[j]? with | some y=>Value.int .i64 y | none=>x:=by
 unfold putCells;rw[Array.getElem?_mapIdx]
 cases hc:c[j]? with
 | none=>rfl
 | some x=>
   simp only[Option.map_some,zA]
   by_cases hj:j<ys.length
   ·rw[if_pos (by simp[hj]),zI hj];simp[hj]
   ·rw[if_neg (by simp;omega),List.getElem?_eq_none (by omega)]
theorem zhO (w:World) (q b:Nat) (ys:List Int) (r:Nat) (x:TypeId×Nat) (hx:w.shape? r=some x):(putRow (Value.int .i64) (Sort.ahead w q) b 0 ys.toArray).shape? r=some x:=by
 unfold World.shape? at hx⊢;simp only[putRow,mapBlock,Sort.ahead,Array.getElem?_modify]
 by_cases h:b=r
 ·subst h;rw[if_pos rfl]
  cases ho:w.heap[b]? with
  | none=>rw[ho]at hx;cases hx
  | some o=>
    rw[ho]at hx
    cases o with
    | cells c e fr=>simpa[onCells,putCells]using hx
    | _=>cases hx
 ·rw[if_neg h];exact hx
section
variable {N:Nam} {c:Ctx} {A:Nat->Prop} {μ lam:Nat->Nat} {w:World} {H:Nat->Option O} {n:Nat}
theorem ziT (R:Rel N c 0 A μ lam (.init [] H n) zaM w) {k:Nat} {rs:List (List V)} (hk:H k=some (.rows 1 rs false)) (ys:List Int) (hl:ys.length=rs.length) (q:Nat):
 Rel N c 0 A μ lam (.init [] (upd H k (some (.rows 1 (za9 ys) false))) n) zaM (putRow (Value.int .i64) (Sort.ahead w q) (μ k) 0 ys.toArray):=by
 obtain⟨cc,e0,z,h1,h2,h3,h4,h5⟩:=R.heap k _ hk;have hz:=h2 rfl;subst hz
 have Ag: ∀r,(putRow (Value.int .i64) (Sort.ahead w q) (μ k) 0 ys.toArray).heap[r]? =if μ k=r then(w.heap[r]?).map (onCells (putCells (Value.int .i64) 0 ys.toArray))else w.heap[r]? :=by
  intro r;simp only[putRow,mapBlock,Sort.ahead,Array.getElem?_modify]
 refine R.changeH (o':= .rows 1 (za9 ys) false) hk ⟨rfl,by simp[za9,hl]⟩ rfl (by simp) (by simp) rfl ?_ ?_ ?_ ?_ ⟨rfl,rfl⟩
 ·simp[putRow,mapBlock,Sort.ahead]
 ·intro r hr;rw[Ag,if_neg (fun h=>hr h.symm)]
 ·exact fun r x hx=>zhO w q (μ k) ys r x hx
 ·intro E;refine⟨putCells (Value.int .i64) 0 ys.toArray cc,e0,(0,0),?_,fun _=>rfl,?_,?_,?_⟩
  ·rw[Ag,if_pos rfl,h1];rfl
  ·have:(putCells (Value.int .i64) 0 ys.toArray cc).size=cc.size:=by simp[putCells]
   rw[this];simp[za9,hl];omega
  ·intro i row hi;simp only[za9,zJ,zE]at hi;obtain⟨y,_,rfl⟩:=hi;rfl
  ·intro i row j x hi hj;simp only[za9,zJ,zE]at hi;obtain⟨y,hy,rfl⟩:=hi
   have Lw:j=0:=by
    have:=(zH.1 hj).1;simp at this;exact this
   subst Lw;simp only[List.getElem?_cons_zero,zA]at hj;subst hj;have Ad:i<ys.length:=(zH.1 hy).1;obtain⟨row,Ap⟩: ∃row,rs[i]? =some row:=⟨_,zI (by omega)⟩
   have Bb:=h4 i row Ap;obtain⟨x0,PF⟩: ∃x0,row[0]? =some x0:=⟨_,zI (by omega)⟩
   obtain⟨v,hv,_⟩:=h5 i row 0 x0 Ap PF;refine⟨.int .i64 y,?_,.t (.int _ _)⟩;rw[zmD,hv];simp[hy]
theorem zui (R:Rel N c 0 A μ lam (.init [] H n) zaM w) (os:Array Obj):Rel N c 0 A μ lam (.init [] H n) zaM (grow w os):=by
 have Ag: ∀r,r<w.heap.size->(grow w os).heap[r]? =w.heap[r]? :=fun r hr=>by simp[grow,Array.getElem?_append,hr]
 refine R.world (by simp[grow]) ?_ ?_ ?_ (zdG.nil _ _ _) ⟨rfl,rfl⟩
 ·rintro r (h | h | ⟨k,o,hk,hl,rfl⟩)
  ·exact Ag r (R.alt r h)
  ·obtain⟨t,ht,_⟩:=h;simp[St.init]at ht
  ·exact Ag _ (R.lt_live hk hl)
 ·intro r hr _;exact Ag r (Nat.lt_of_lt_of_le hr R.csize)
 ·intro r x hx;unfold World.shape? at hx⊢
  by_cases hr:r<w.heap.size
  ·rw[Ag r hr];exact hx
  ·rw[Array.getElem?_eq_none (by omega)]at hx;cases hx
theorem zmA (R:Rel N c 0 A μ lam (.init [] H n) zaM w) {w':World} (hb:Go.RowKit.Below w.heap.size w w'):Rel N c 0 A μ lam (.init [] H n) zaM w':=by
 refine R.world hb.size ?_ ?_ ?_ (zdG.nil _ _ _) ⟨hb.os,hb.output⟩
 ·rintro r (h | h | ⟨k,o,hk,hl,rfl⟩)
  ·exact hb.block r (R.alt r h)
  ·obtain⟨t,ht,_⟩:=h;simp[St.init]at ht
  ·exact hb.block _ (R.lt_live hk hl)
 ·intro r hr _;exact hb.block r (Nat.lt_of_lt_of_le hr R.csize)
 ·intro r x hx;unfold World.shape? at hx⊢
  by_cases hr:r<w.heap.size
  ·rw[hb.block r hr];exact hx
  ·rw[Array.getElem?_eq_none (by omega)]at hx;cases hx
theorem zpf (R:Rel N c 0 A μ lam (.init [] H n) zaM w) {k len:Nat} {rs:List (List V)} {zs:List Int} (hk:H k=some (.rows 1 rs false)) (hz:zd2 rs=some zs) (hl:zs.length=len)
 {v:Value} (hv:zbl w A N.nm μ H v (.ms k 0 len)):
 ∃a cap,v= .slice a zs.length cap/\zs.length<=cap/\(zs=[]\/a=some ⟨μ k,0,none⟩)/\Holds (Value.int .i64) w (μ k) 0 zs.toArray/\μ k<w.heap.size/\(cap=0\/(a=some ⟨μ k,0,none⟩/\ ∃e m,w.shape? (μ k)=some (e,m)/\cap<=m)):=by
 obtain⟨i1,i2⟩:=zcU hz;obtain⟨cc,e0,z,h1,h2,h3,h4,h5⟩:=R.heap k _ hk;have RK:=h2 rfl;subst RK;have Ad:μ k<w.heap.size:=R.lt_live hk rfl
 have hH:Holds (Value.int .i64) w (μ k) 0 zs.toArray:=by
  intro j hj;have Dp:j<zs.length:=by simpa using hj
  refine⟨?_,by simp[World.frozen?,h1]⟩;have MK:zs[j]? =some zs[j]:=zI Dp;obtain⟨u,hu,hr⟩:=h5 j _ 0 _ (i2 j _ MK) rfl
  cases hr with
  | t hr=>
    cases hr;simp only[World.cell?,h1,Nat.zero_add];simp only[Nat.mul_one,Nat.add_zero]at hu;simp[hu,Dp]
 have AX:RepC w A N.nm μ H v (.ms k 0 len):=hv
 cases AX with
 | ms _ _ _ cap sz rs' frz a Ah hi hc ha=>
   rw[hk]at Ah;cases Ah;subst hl;refine⟨a,cap,rfl,by omega,?_,hH,Ad,?_⟩
   ·rcases ha with h0 | ⟨rfl,_⟩
    ·exact .inl (List.eq_nil_of_length_eq_zero (by omega))
    ·exact .inr (by simp)
   ·rcases ha with h0 | ⟨rfl,e,m,hs,hm⟩
    ·exact .inl h0
    ·exact .inr ⟨by simp,e,m,hs,by omega⟩
 | dms _ _ _ Ah _=>rw[hk]at Ah;cases Ah
end
theorem ze2 {w:World} {A:Nat->Prop} {nm μ:Nat->Nat} {H:Nat->Option O} {vs:Array Value} {x:V} (h:zb1 w A nm μ H vs [x]): ∃v,vs= #[v]/\zbl w A nm μ H v x:=by
 obtain⟨h1,h2⟩:=h;obtain⟨v,hv,hr⟩:=h2 0 x rfl;refine⟨v,?_,hr⟩;apply Array.ext_getElem?;intro i
 cases i with
 | zero=>simpa using hv
 | succ i=>rw[Array.getElem?_eq_none (by simp at h1;omega),Array.getElem?_eq_none (by simp)]
theorem zvC {H:Nat->Option O} {k:Nat} {o:O} (h:H k=some o):upd H k (some o)=H:=by
 funext j;unfold upd;split
 ·rename_i e;rw[e,h]
 ·rfl
theorem zkN {rs:List (List V)} (h:zd2 rs=some []):rs=[]:=List.eq_nil_of_length_eq_zero (by simpa using(zcU h).1)
theorem zu0 {P:Program} {N:Nam} {g:Nat} {ρ:Ren} (Ly:Go.Proofs.Lays.n189 P ρ) (hf:ρ.f 189=N.nm g) {rf:Func} (hr:Real P (N.nm g) rf):zl3 P N g .sortI:=by
 refine⟨⟨rf,hr⟩,fun args H n r H' n' h c A μ lam w vs R ha=> ?_,fun _ _ h=>by simp[zev]at h⟩;rw[<- hf];unfold zd3 at h;split at h
 all_goals(try contradiction)
 ·cases h;obtain⟨v,rfl,hv⟩:=ze2 ha;cases hv.t_inv;refine(Go.Proofs.Any.slices_Sort_int_none Ly _ _ w).mono ?_;rintro e w' ⟨rfl,rfl⟩;exact⟨_,A,μ,lam,rfl,R,⟨#[],rfl,rfl,by simp⟩⟩
 ·rename_i k len _;split at h
  ·rename_i rs hk;simp only[zB]at h;obtain⟨zs,hz,h⟩:=h;split at h
   ·rename_i hl;cases h;obtain⟨v,rfl,hv⟩:=ze2 ha;obtain⟨a,cap,rfl,hc,F6,hH,Ad,_⟩:=zpf R hk hz hl.1 hv
    by_cases h0:zs=[]
    ·subst h0;refine(Go.Proofs.Any.slices_Sort_int_none Ly _ _ w).mono ?_;rintro e w' ⟨rfl,rfl⟩;have AD:=zkN hz;subst AD;refine⟨_,A,μ,lam,rfl,?_,⟨#[],rfl,rfl,by simp⟩⟩;rw[List.mergeSort_nil,show za9 []=[]from rfl,zvC hk];exact R
    ·obtain rfl:=F6.resolve_left h0;refine(Go.Proofs.Any.slices_Sort_int Ly (μ k) 0 cap zs w hH Ad (by omega)).mono ?_;rintro e w' ⟨rfl,q,os,rfl⟩;refine⟨_,A,μ,lam,rfl,zui (ziT R hk _ ?_ q) os,⟨#[],rfl,rfl,by simp⟩⟩;rw[List.length_mergeSort,(zcU hz).1]
   ·cases h
  ·cases h
theorem zqP (zs:List Int):(Go.Lib.compact zs).length<=zs.length:=by
 unfold Go.Lib.compact Go.Lib.compactUpTo;rw[List.length_map];exact Nat.le_trans (List.length_filter_le _ _) (by simp)
theorem zpo (H:Nat->Option O) (d:Nat): ∀l:List Int,(za9 l).mapM (fun row=>row.mapM (toT H d))=some (l.map fun z=>[T.int .i64 z])
 | []=>rfl
 | z::l=>by
   have e:za9 (z::l)=[.t (.int .i64 z)]::za9 l:=rfl;have e1:toT H d (.t (.int .i64 z))=some (.int .i64 z):=by cases d<;>rfl
   rw[e,List.mapM_cons,zpo H d l];simp only[List.mapM_cons,List.mapM_nil,e1];rfl
theorem zkM (H:Nat->Option O) (d:Nat): ∀l:List Int,(za9 l).flatMap (fun row=>row.flatMap (reach H d))=[]
 | []=>rfl
 | z::l=>by
   have e:za9 (z::l)=[.t (.int .i64 z)]::za9 l:=rfl;have e1:reach H d (.t (.int .i64 z))=[]:=by cases d<;>rfl
   rw[e,List.flatMap_cons,zkM H d l];simp only[List.flatMap_cons,List.flatMap_nil,e1];rfl
theorem zrh {H:Nat->Option O} (k:Nat) (a b:Option O):upd (upd H k a) k b=upd H k b:=by
 funext j;unfold upd;split<;>rfl
theorem zom {P:Program} {N:Nam} {g:Nat} {ρ:Ren} (Ly:Go.Proofs.Lays2.n20 P ρ) (hf:ρ.f 20=N.nm g) {rf:Func} (hr:Real P (N.nm g) rf):zl3 P N g .compactI:=by
 refine⟨⟨rf,hr⟩,fun args H n r H' n' h c A μ lam w vs R ha=> ?_,fun _ _ h=>by simp[zev]at h⟩;rw[<- hf];unfold zd3 at h;split at h
 all_goals(try contradiction)
 ·cases h;obtain⟨v,rfl,hv⟩:=ze2 ha;cases hv.t_inv;refine(Go.Proofs.Any.slices_Compact_int_empty Ly _ _ w).mono ?_;rintro e w' ⟨rfl,rfl⟩;exact⟨_,A,μ,lam,rfl,R,(RepC.t (.sl0 _ _)).toV⟩
 ·rename_i k len _;split at h
  ·rename_i rs hk;simp only[zB]at h;obtain⟨zs,hz,h⟩:=h;split at h
   ·rename_i hl;cases h;obtain⟨v,rfl,hv⟩:=ze2 ha;obtain⟨a,cap,rfl,hc,F6,hH,Ad,Cw⟩:=zpf R hk hz hl.1 hv;have By:=zqP zs
    by_cases h0:zs=[]
    ·subst h0;refine(Go.Proofs.Any.slices_Compact_int_empty Ly _ _ w).mono ?_;rintro e w' ⟨rfl,rfl⟩;have AD:=zkN hz;subst AD;exact⟨_,_,μ,lam,rfl,R.freeze hk,(RepC.t (.sl0 _ _)).toV⟩
    ·obtain rfl:=F6.resolve_left h0;refine(Go.Proofs.Any.slices_Compact_int Ly (μ k) 0 cap zs w hH (by omega) hc).mono ?_;rintro e w' ⟨rfl,q,rfl⟩
     have Ac:(Go.Lib.compact zs++List.replicate (zs.length-(Go.Lib.compact zs).length) 0).length=rs.length:=by
      rw[zM,List.length_replicate,(zcU hz).1];omega
     have R1:=ziT R hk _ Ac q;have R2:Rel N c 0 (fun r=>A r\/r=μ k) μ lam (.init [] (upd (upd H k (some (.rows 1 (za9 (Go.Lib.compact zs++List.replicate (zs.length-(Go.Lib.compact zs).length) 0)) false))) k (some (.rows 1 (za9 (Go.Lib.compact zs++List.replicate (zs.length-(Go.Lib.compact zs).length) 0)) true))) n) zaM _:=R1.freeze (k:=k) (zaz _ _ _);rw[zrh]at R2;refine⟨_,_,μ,lam,rfl,R2,?_⟩
     have LL:cap≠0:=by
      intro Fs;exact h0 (List.eq_nil_of_length_eq_zero (by omega))
     obtain⟨_,e,m,hs,hm⟩:=Cw.resolve_left LL
     have Ae:RepC (putRow (Value.int .i64) (Sort.ahead w q) (μ k) 0 (Go.Lib.compact zs++List.replicate (zs.length-(Go.Lib.compact zs).length) 0).toArray) A N.nm μ (upd H k (some (.rows 1 (za9 (Go.Lib.compact zs++List.replicate (zs.length-(Go.Lib.compact zs).length) 0)) false))) (.slice (some ⟨μ k,0,none⟩) (Go.Lib.compact zs).length cap) (.ms k 0 (Go.Lib.compact zs).length):=by
      refine .ms k 0 _ cap 1 _ false _ (zaz _ _ _) ?_ (by have e1:=(zcU hz).1;simp only[za9,List.length_map,Ac];omega) (.inr ⟨by simp,e,m,?_,by omega⟩)
      ·simp only[za9,List.length_map,Ac,(zcU hz).1];omega
      ·exact zhO w q (μ k) _ _ _ hs
     have BK:rd (za9 (Go.Lib.compact zs++List.replicate (zs.length-(Go.Lib.compact zs).length) 0)) 0 (Go.Lib.compact zs).length=some (za9 (Go.Lib.compact zs)):=by
      unfold rd;rw[if_pos (by simp[za9]),List.drop_zero];simp[za9,List.map_append]
     have hT:toT (upd H k (some (.rows 1 (za9 (Go.Lib.compact zs++List.replicate (zs.length-(Go.Lib.compact zs).length) 0)) false))) 1000 (.ms k 0 (Go.Lib.compact zs).length)=some (.sl ((Go.Lib.compact zs).map fun z=>[.int .i64 z])):=by
      simp only[toT,zaz,BK,zC,zD,zpo]
     have hR:reach (upd H k (some (.rows 1 (za9 (Go.Lib.compact zs++List.replicate (zs.length-(Go.Lib.compact zs).length) 0)) false))) 1000 (.ms k 0 (Go.Lib.compact zs).length)=[k]:=by
      simp only[reach,zaz,zkM]
     have DM:=zk8 R1.heap 1000 _ _ _ hT Ae;refine(RepC.t (DM.mono (fun _ _=>rfl) ?_)).toV;rintro r (h | ⟨k',Ah,_,rfl⟩)
     ·exact .inl h
     ·have h1:k'∈ [k]:=by rw[<- hR];exact Ah
      rw[List.mem_singleton]at h1;subst h1;exact .inr rfl
   ·cases h
  ·cases h
theorem Rel.more {N:Nam} {c:Ctx} {A:Nat->Prop} {μ lam:Nat->Nat} {w:World} {H:Nat->Option O} {n:Nat} (R:Rel N c 0 A μ lam (.init [] H n) zaM w) {m:Nat} (hm:n<=m):Rel N c 0 A μ lam (.init [] H m) zaM w:=
 { R with fresh:=fun k hk=>R.fresh k (Nat.le_trans hm hk) }
theorem zn9 {es:List (List T)} {zs:List Int} (h:zd2 (es.map (·.map V.t))=some zs):es.length=zs.length/\ ∀(i:Nat) (z:Int),zs[i]? =some z->es[i]? =some [.int .i64 z]:=by
 obtain⟨h1,h2⟩:=zcU h;refine⟨by simpa using h1,fun i z hi=> ?_⟩;have:=h2 i z hi;rw[zJ,zE]at this;obtain⟨e,he,h3⟩:=this
 match e,h3 with
 | [],h3=>simp at h3
 | [x],h3=>simp only[List.map_cons,List.map_nil,List.cons.injEq,V.t.injEq,and_true]at h3;rw[he,h3]
 | _::_::_,h3=>simp at h3
theorem zsN {P:Program} {N:Nam} {g:Nat} {ρ:Ren} (Ly:Go.Proofs.Lays2.n15 P ρ) (hf:ρ.f 15=N.nm g) {rf:Func} (hr:Real P (N.nm g) rf):zl3 P N g .cloneI:=by
 refine⟨⟨rf,hr⟩,fun args H n r H' n' h c A μ lam w vs R ha=> ?_,fun _ _ h=>by simp[zev]at h⟩;rw[<- hf]
 have empty: ∀(a:Option Addr) (cap:Nat),Calls P (ρ.f 15) #[.slice a 0 cap] w fun e w'=> ∃v A' μ' lam',e= .returned v/\Rel N c 0 A' μ' lam' (.init [] H n) zaM w'/\zbl w' A' N.nm μ' H v (.t (.sl [])):=by
  intro a cap
  cases a with
  | none=>
    refine(Go.Proofs.Any.slices_Clone_int_nil Ly _ _ w).mono ?_;rintro e w' ⟨rfl,rfl⟩
    exact⟨_,A,μ,lam,rfl,R,(RepC.t (.sl0 _ _)).toV⟩
  | some a=>
    refine(Go.Proofs.Any.slices_Clone_int_zero Ly a cap w).mono ?_;rintro e w' ⟨v',rfl,ho,_,hb⟩;have R1:Rel N c 0 A μ lam (.init [] H n) zaM w':=zmA R hb;refine⟨_,A,μ,lam,rfl,R1,?_⟩;rcases ho.2 with⟨rfl,_⟩ | ⟨g,cp,cur,rfl,_⟩
    ·exact(RepC.t (.sl0 _ _)).toV
    ·exact(RepC.t (.sl0 _ _)).toV
 unfold zd3 at h;split at h
 all_goals(try contradiction)
 ·cases h;obtain⟨v,rfl,hv⟩:=ze2 ha;cases hv.t_inv;exact empty _ _
 ·cases h;obtain⟨v,rfl,hv⟩:=ze2 ha
  cases hv.t_inv with
  | sl0 a cap=>exact empty _ _
  | sl r off cap sz es vf h0=>exact absurd h0 (by simp)
 ·rename_i es Az;simp only[zB]at h;obtain⟨zs,hz,h⟩:=h;split at h
  ·rename_i hl;cases h;obtain⟨v,rfl,hv⟩:=ze2 ha;obtain⟨i1,i2⟩:=zn9 hz
   cases hv.t_inv with
   | sl0 a cap=>simp_all
   | sl r0 off cap sz es vf h0 hc hA hs Bs Iw=>
     have AW: ∀j,j<zs.length->w.cell? ⟨r0,off+j,none⟩=some (.int .i64 (zs.getD j 0)):=by
      intro j hj;have MK:zs[j]? =some zs[j]:=zI hj;have Ic:=i2 j _ MK;have h1:=hs j _ Ic;simp at h1;subst h1;have h2:=Bs j _ 0 _ Ic rfl;have h3:=Iw j _ 0 _ Ic rfl;cases BV:vf j 0<;>rw[BV]at h3<;>cases h3
      rw[BV]at h2;simpa[hj]using h2
     rw[i1];refine(Go.Proofs.Any.slices_Clone_int Ly r0 off zs.length cap zs w (Nat.le_refl _) (by omega) AW).mono ?_;rintro e w' ⟨v',rfl,ho,_,hb⟩;have R1:Rel N c 0 A μ lam (.init [] H (n+1)) zaM w':=(zmA R hb).more (Nat.le_succ _);rcases ho.2 with⟨_,Mi⟩ | ⟨g0,cp,cur,rfl,hg,LI,Ky,_,AS,Dv⟩
     ·omega
     ·have Nb:cur.size=cp:=by simpa using AS
      rw[List.take_length,Nat.mul_one]at Dv
      have R2:=R1.adoptH (k:=n) (r:=g0) (o:=.rows 1 (za9 zs) false) (R.fresh n (Nat.le_refl _)) (Nat.lt_succ_self _) ⟨fun h=>Nat.lt_irrefl _ (Nat.lt_of_lt_of_le (R.alt _ h) hg),fun t ht=>by simp[St.init]at ht,fun k o hk F8 e=>by
       have:=R.lt_live hk F8
       omega,.inr (Nat.le_trans R.csize hg)⟩ ⟨cur,_,(0,0),LI,fun _=>rfl,by simp[za9];omega,fun i row hi=>by
       simp only[za9,zJ,zE]at hi;obtain⟨y,_,rfl⟩:=hi;rfl,fun i row j x hi hj=>by
       simp only[za9,zJ,zE]at hi;obtain⟨y,hy,rfl⟩:=hi
       have Lw:j=0:=by
        have:=(zH.1 hj).1;simp at this;exact this
       subst Lw;simp only[List.getElem?_cons_zero,zA]at hj;subst hj;refine⟨.int .i64 y,?_,.t (.int _ _)⟩;have Ad:i<zs.length:=(zH.1 hy).1;have h5:(cur.toList.take zs.length)[i]? =some (.int .i64 y):=by rw[Dv,zJ,hy];rfl
       rw[zO,if_pos Ad,Array.getElem?_toList]at h5
       simpa using h5⟩ (by simp)
      refine⟨_,A,_,lam,rfl,R2,?_⟩;refine RepC.toV (.ms n 0 zs.length cp 1 (za9 zs) false _ (zaz _ _ _) (by simp[za9]) (by simp[za9];omega) (.inr ⟨?_,ρ.t 3,cur.size,?_,by omega⟩))
      ·rw[zaz]
      ·rw[zaz];unfold World.shape?;rw[LI]
  ·cases h
end Rg
end
section
/-
 DERIVED:THE SHELF's CONTRACTS AT THIS DUMP,IN PLAIN WORDS (tools/lay-plain.mjs out of 'LayRCm.lean',which tools/lay-shelf.mjs wrote):THE SAME DECLARATIONS UNDER THE SAME NAMES: 'import','namespace','open','def','theorem' AND NOTHING ELSE:no command of the shelf's:FOR A HAND-IN. Each laying:the zBf of numbers ('.._ren') and one theorem,a field a fact of the dump's own or the kernel's comparison;each contract:ONE APPLICATION.
-/
namespace Go.Proofs
open Go.Shelf
def Tryz.lays189_ren:Go.Shelf.Ren:=⟨fun | 189=>149 | 125=>162 | 257=>161 | 128=>189 | 129=>190 | 294=>180 | 295=>181 | 296=>182 | 297=>183 | 298=>184 | 299=>185 | 216=>186 | 300=>187 | 301=>188 | 328=>195 | 329=>196 | 330=>197 | 331=>198 | 332=>199 | 215=>127 | 343=>208 | n=>n,fun | 28=>32 | 3=>3 | 46=>184 | 0=>0 | 51=>232 | 53=>100 | 4=>4 | 183=>226 | 182=>225 | 131=>130 | 5=>5 | 9=>9 | 218=>238 | 222=>242 | 228=>244 | 229=>245 | n=>n,fun | n=>n⟩
theorem Tryz.lays189:Go.Proofs.Lays.n189 Tryz.prog Tryz.lays189_ren:={
 mixed:=by kernel_rfl
 f125:=Tryz.func162.trans (congrArg some (by kernel_rfl))
 f128:=Tryz.func189.trans (congrArg some (by kernel_rfl))
 f129:=Tryz.func190.trans (congrArg some (by kernel_rfl))
 f189:=Tryz.func149.trans (congrArg some (by kernel_rfl))
 f215:=Tryz.func127.trans (congrArg some (by kernel_rfl))
 f216:=Tryz.func186.trans (congrArg some (by kernel_rfl))
 f257:=Tryz.func161.trans (congrArg some (by kernel_rfl))
 f294:=Tryz.func180.trans (congrArg some (by kernel_rfl))
 f295:=Tryz.func181.trans (congrArg some (by kernel_rfl))
 f296:=Tryz.func182.trans (congrArg some (by kernel_rfl))
 f297:=Tryz.func183.trans (congrArg some (by kernel_rfl))
 f298:=Tryz.func184.trans (congrArg some (by kernel_rfl))
 f299:=Tryz.func185.trans (congrArg some (by kernel_rfl))
 f300:=Tryz.func187.trans (congrArg some (by kernel_rfl))
 f301:=Tryz.func188.trans (congrArg some (by kernel_rfl))
 f328:=Tryz.func195.trans (congrArg some (by kernel_rfl))
 f329:=Tryz.func196.trans (congrArg some (by kernel_rfl))
 f330:=Tryz.func197.trans (congrArg some (by kernel_rfl))
 f331:=Tryz.func198.trans (congrArg some (by kernel_rfl))
 f332:=Tryz.func199.trans (congrArg some (by kernel_rfl))
 f343:=Tryz.func208.trans (congrArg some (by kernel_rfl))
 t0:=Tryz.underlying0
 a0:=Tryz.isAgg0
 z0:=Tryz.sizeOf0
 v0:=Tryz.zeroValue0
 t3:=Tryz.underlying3
 a3:=Tryz.isAgg3
 z3:=Tryz.sizeOf3
 v3:=Tryz.zeroValue3
 t4:=Tryz.underlying4
 a4:=Tryz.isAgg4
 z4:=Tryz.sizeOf4
 v4:=Tryz.zeroValue4
 t5:=Tryz.underlying5
 a5:=Tryz.isAgg5
 z5:=Tryz.sizeOf5
 v5:=Tryz.zeroValue5
 t9:=Tryz.underlying9
 a9:=Tryz.isAgg9
 z9:=Tryz.sizeOf9
 v9:=Tryz.zeroValue9
 t28:=Tryz.underlying32
 a28:=Tryz.isAgg32
 z28:=Tryz.sizeOf32
 v28:=Tryz.zeroValue32
 t46:=Tryz.underlying184
 a46:=Tryz.isAgg184
 z46:=Tryz.sizeOf184
 v46:=Tryz.zeroValue184
 t51:=Tryz.underlying232
 a51:=Tryz.isAgg232
 z51:=Tryz.sizeOf232
 v51:=Tryz.zeroValue232
 t53:=Tryz.underlying100
 a53:=Tryz.isAgg100
 z53:=Tryz.sizeOf100
 v53:=Tryz.zeroValue100
 t131:=Tryz.underlying130
 a131:=Tryz.isAgg130
 z131:=Tryz.sizeOf130
 v131:=Tryz.zeroValue130
 t182:=Tryz.underlying225
 a182:=Tryz.isAgg225
 z182:=Tryz.sizeOf225
 v182:=Tryz.zeroValue225
 t183:=Tryz.underlying226
 a183:=Tryz.isAgg226
 z183:=Tryz.sizeOf226
 v183:=Tryz.zeroValue226
 t218:=Tryz.underlying238
 a218:=Tryz.isAgg238
 z218:=Tryz.sizeOf238
 v218:=Tryz.zeroValue238
 t222:=Tryz.underlying242
 a222:=Tryz.isAgg242
 z222:=Tryz.sizeOf242
 v222:=Tryz.zeroValue242
 t228:=Tryz.underlying244
 a228:=Tryz.isAgg244
 z228:=Tryz.sizeOf244
 v228:=Tryz.zeroValue244
 t229:=Tryz.underlying245
 a229:=Tryz.isAgg245
 z229:=Tryz.sizeOf245
 v229:=Tryz.zeroValue245 }
def Tryz.lays2n20_ren:Go.Shelf.Ren:=⟨fun | 20=>150 | n=>n,fun | 22=>32 | 3=>3 | 4=>4 | 0=>0 | n=>n,fun | n=>n⟩
theorem Tryz.lays2n20:Go.Proofs.Lays2.n20 Tryz.prog Tryz.lays2n20_ren:={
 mixed:=by kernel_rfl
 f20:=Tryz.func150.trans (congrArg some (by kernel_rfl))
 t0:=Tryz.underlying0
 a0:=Tryz.isAgg0
 z0:=Tryz.sizeOf0
 v0:=Tryz.zeroValue0
 t3:=Tryz.underlying3
 a3:=Tryz.isAgg3
 z3:=Tryz.sizeOf3
 v3:=Tryz.zeroValue3
 t4:=Tryz.underlying4
 a4:=Tryz.isAgg4
 z4:=Tryz.sizeOf4
 v4:=Tryz.zeroValue4
 t22:=Tryz.underlying32
 a22:=Tryz.isAgg32
 z22:=Tryz.sizeOf32
 v22:=Tryz.zeroValue32
 i3:=by kernel_rfl }
def Tryz.lays2n15_ren:Go.Shelf.Ren:=⟨fun | 15=>115 | n=>n,fun | 22=>32 | 3=>3 | 4=>4 | n=>n,fun | n=>n⟩
theorem Tryz.lays2n15:Go.Proofs.Lays2.n15 Tryz.prog Tryz.lays2n15_ren:={
 mixed:=by kernel_rfl
 f15:=Tryz.func115.trans (congrArg some (by kernel_rfl))
 t3:=Tryz.underlying3
 a3:=Tryz.isAgg3
 z3:=Tryz.sizeOf3
 v3:=Tryz.zeroValue3
 t4:=Tryz.underlying4
 a4:=Tryz.isAgg4
 z4:=Tryz.sizeOf4
 v4:=Tryz.zeroValue4
 t22:=Tryz.underlying32
 a22:=Tryz.isAgg32
 z22:=Tryz.sizeOf32
 v22:=Tryz.zeroValue32
 i3:=by kernel_rfl }
end Go.Proofs
end
section
set_option maxRecDepth 100000
namespace Rg
open Go Go.Proofs Go.Proofs.YtoidcnbdndioaaaGreatDoor
namespace Seat
def tbl:List Nat:=[2,1000001,1000002,1000003,1000004,1000005,1000006,1000007,1000008,1000009,1000010,1000011,1000012,1000013,1000014,1000015,1000016,1000017,1000018,1000019,1000020,1000021,1000022,24,135,1000025,1000026,50,1000028,1000029,1000030,1000031,1000032,129,1000034,1000035,1000036,1000037,1000038,1000039,1000040,1000041,1000042,1000043,1000044,1000045,1000046,70,95,152,1000050,38,39,1000053,41,99,117,1000057,1000058,1000059,46,30,14,12,137,33,1000066,1000067,142,1000069,104,105,144,145,149,150,110,112,113,153,154,155,156,157,82,83,84,85,86,159,1000090,143,160,161,162,166,167,168,169,170,171,172,173,174,175,176,177,45,178,128,130,131,132,133,134,136,179,1000117,1000118,1000119,180,181,182,183,184,185,186,187,188,189,190,140,191,192,193,194,111,151,36,195,196,197,198,199,127,158,200,201,202,203,204,205,206,207,163,164,165,81,96,97,208,209,210,211,212,213,214,236,1000168,1000169,1000170,1000171,1000172,1000173,1000174,1000175,7,1000177,1000178,1000179,1000180,1000181,1000182,1000183,1000184,1000185,1000186,1000187,1000188,1000189,1000190,1000191,1000192,1000193,1000194,1000195,1000196,1000197,115,1000199,1000200,1000201,1000202,1000203,1000204,1000205,47,114,1000208,1000209,1000210,1000211,1000212,1000213,1000214,1000215,1000216,6,1000218,1000219,1000220,1000221,1000222,1000223,1000224,1000225,1000226,1000227,1000228,1000229,1000230,1000231,1000232,1000233,1000234,1000235,1000236,1000237,13,32,1000240,1000241,1000242,1000243,1000244,1000245,1000246,1000247,1000248,1000249,1000250,1000251,1000252,1000253,1000254,1000255,1000256,1000257,1000258,1000259,1000260,1000261,1000262,1000263,1000264,1000265,1000266,1000267,1000268,1000269,1000270,1000271,1000272,1000273,1000274,1000275,1000276,1000277,1000278,1000279,118,1000281,1000282,1000283,1000284,1000285,1000286,1000287,1000288,1000289,1000290,1000291,1000292,1000293,1000294,1000295,1000296,1000297,1000298,1000299,1000300,1000301,1000302,1000303,1000304,1000305,1000306,1000307,1000308,1000309,1000310,1000311,1000312,1000313,1000314,1000315,1000316,1000317,1000318,1000319,1000320,1000321,1000322,1000323,1000324,1000325,1000326,1000327,1000328,1000329,1000330,1000331,1000332,1000333,1000334,1000335,1000336,1000337,1000338,1000339,1000340,1000341,1000342,1000343,1000344,1000345,1000346,1000347,1000348,1000349,54,1000351,1000352,1000353,1000354,1000355,1000356,1000357,1000358,1000359,1000360,1000361,1000362,1000363,1000364,1000365,1000366,1000367,119,1000369,1000370,1000371,1000372,1000373,1000374,1000375,1000376,1000377,1000378,1000379,1000380,1000381,1000382,1000383,1000384,1000385,1000386,1000387,1000388,1000389,1000390,1000391,1000392,1000393,1000394,1000395,1000396,1000397,1000398,1000399,1000400,1000401,1000402,1000403,1000404,1000405,1000406,1000407,1000408,1000409,1000410,1000411,1000412,1000413,1000414,1000415,1000416,1000417,1000418,1000419,1000420,1000421,1000422,1000423,1000424,1000425,1000426,1000427,1000428,1000429,1000430,1000431,1000432,1000433,1000434,1000435,1000436,1000437,1000438,1000439,1000440,1000441,1000442,1000443,1000444,1000445,1000446,1000447,1000448,1000449,1000450,1000451,1000452,1000453,1000454,1000455,1000456,1000457,1000458,1000459,1000460,1000461,1000462,1000463,1000464,1000465,1000466,1000467,1000468,1000469,1000470,1000471,1000472,1000473,1000474,1000475,1000476,1000477,1000478,1000479,1000480,1000481,1000482,1000483,1000484,1000485,1000486,1000487,1000488,1000489,1000490,1000491,1000492,1000493,1000494,1000495,1000496,1000497,1000498,1000499,1000500,3,4,5,8,9,10,11,15,16,17,18,19,20,21,22,23,25,26,27,28,29,31,34,35,37,40,42,43,44,48,49,51,52,53,55,56,57,58,59,60,61,62,63,64,65,66,67,68,69,71,72,73,74,75,76,77,78,79,80,87,88,89,90,91,92,93,94,98,100,101,102,103,106,107,108,109,116,120,121,122,123,124,125,126,138,139,141,146,147,148]
def I:Inv:=⟨fun f=>tbl.findIdx? (· ==f),fun g=>if g=0 then some 0 else if g=1 then some 3 else none,none,[]⟩
def N:Nam:=⟨fun k=>tbl.getD k 0,fun k=>[0,0,0,1].getD k 0,G,G,CR Tryz.prog I,0,0⟩
def zaB (s:List Nat):Raws:=⟨[52,53,54,57,60,70,74,75,76,77,83,93,97,120,121,122,123,124,125,127,128,136,139,141,142,143,158,160,199,200,202,203,236,241,244,245,246,258,260,261,295,300,301,302,310,315,317,322,323,324,326,350,353,356,361,362,363,364,365,368,375,376,378,379,380,381,382,386,387,388,389,390,391,392,393,425,426,453,455,461,526,530,532,533,562,580,581,584,585,588,589,590],s,[32,78,198,540]⟩
def Ent (q:Nat×F):Prop:=(∃rf rw L raw,Tryz.prog.funcs[N.nm q.1]? =some rf/\zou Tryz.prog I rw L raw rf=some q.2)\/ ∃e,q.2.body= .ext e/\zl3 Tryz.prog N q.1 e
theorem e23:Ent (23,f23):=.inl ⟨Tryz.f24,zaB [],[2],false,Tryz.func24,by kernel_rfl⟩
theorem e27:Ent (27,f27):=.inl ⟨Tryz.f50,zaB [],[],false,Tryz.func50,by kernel_rfl⟩
theorem e47:Ent (47,f47):=.inl ⟨Tryz.f70,zaB [],[2],false,Tryz.func70,by kernel_rfl⟩
theorem e51:Ent (51,f51):=.inl ⟨Tryz.f38,zaB [7],[],false,Tryz.func38,by kernel_rfl⟩
theorem e52:Ent (52,f52):=.inl ⟨Tryz.f39,zaB [15],[4],true,Tryz.func39,by kernel_rfl⟩
theorem e54:Ent (54,f54):=.inl ⟨Tryz.f41,zaB [],[2],true,Tryz.func41,by kernel_rfl⟩
theorem e55:Ent (55,f55):=.inl ⟨Tryz.f99,zaB [],[2],false,Tryz.func99,by kernel_rfl⟩
theorem e56:Ent (56,f56):=.inl ⟨Tryz.f117,zaB [],[7],false,Tryz.func117,by kernel_rfl⟩
theorem e60:Ent (60,f60):=.inl ⟨Tryz.f46,zaB [],[],true,Tryz.func46,by kernel_rfl⟩
theorem e61:Ent (61,f61):=.inl ⟨Tryz.f30,zaB [],[4],false,Tryz.func30,by kernel_rfl⟩
theorem e62:Ent (62,f62):=.inl ⟨Tryz.f14,zaB [],[4],false,Tryz.func14,by kernel_rfl⟩
theorem e63:Ent (63,f63):=.inl ⟨Tryz.f12,zaB [],[8,7,6],false,Tryz.func12,by kernel_rfl⟩
theorem e70:Ent (70,f70):=.inl ⟨Tryz.f104,zaB [38],[],true,Tryz.func104,by kernel_rfl⟩
theorem e71:Ent (71,f71):=.inl ⟨Tryz.f105,zaB [],[],false,Tryz.func105,by kernel_rfl⟩
theorem e72:Ent (72,f72):=.inl ⟨Tryz.f144,zaB [],[],false,Tryz.func144,by kernel_rfl⟩
theorem e73:Ent (73,f73):=.inl ⟨Tryz.f145,zaB [],[3],false,Tryz.func145,by kernel_rfl⟩
theorem e74:Ent (74,f74):=.inr ⟨.sortI,rfl,zu0 Tryz.lays189 (by kernel_rfl) (rf:=Tryz.f149) ⟨Tryz.func149,by kernel_rfl,by kernel_rfl⟩⟩
theorem e75:Ent (75,f75):=.inr ⟨.compactI,rfl,zom Tryz.lays2n20 (by kernel_rfl) (rf:=Tryz.f150) ⟨Tryz.func150,by kernel_rfl,by kernel_rfl⟩⟩
theorem e76:Ent (76,f76):=.inl ⟨Tryz.f110,zaB [13],[],true,Tryz.func110,by kernel_rfl⟩
theorem e77:Ent (77,f77):=.inl ⟨Tryz.f112,zaB [],[],true,Tryz.func112,by kernel_rfl⟩
theorem e78:Ent (78,f78):=.inl ⟨Tryz.f113,zaB [],[1],true,Tryz.func113,by kernel_rfl⟩
theorem e91:Ent (91,f91):=.inl ⟨Tryz.f143,zaB [],[],false,Tryz.func143,by kernel_rfl⟩
theorem e92:Ent (92,f92):=.inl ⟨Tryz.f160,zaB [],[],false,Tryz.func160,by kernel_rfl⟩
theorem zE8:Ent (107,f107):=.inl ⟨Tryz.f45,zaB [],[],false,Tryz.func45,by kernel_rfl⟩
theorem zEQ:Ent (136,zLH):=.inl ⟨Tryz.f111,zaB [],[],true,Tryz.func111,by kernel_rfl⟩
theorem zNA:Ent (144,f144):=.inl ⟨Tryz.f127,zaB [],[],false,Tryz.func127,by kernel_rfl⟩
theorem zEe:Ent (198,zMi):=.inr ⟨.cloneI,rfl,zsN Tryz.lays2n15 (by kernel_rfl) (rf:=Tryz.f115) ⟨Tryz.func115,by kernel_rfl,by kernel_rfl⟩⟩
theorem zD6:Ent (206,zLG):=.inl ⟨Tryz.f47,zaB [],[],false,Tryz.func47,by kernel_rfl⟩
theorem zD5:Ent (207,zLF):=.inl ⟨Tryz.f114,zaB [],[],false,Tryz.func114,by kernel_rfl⟩
theorem zNz:Ent (238,zMh):=.inl ⟨Tryz.f13,zaB [],[4],false,Tryz.func13,by kernel_rfl⟩
theorem zNy:Ent (280,zLE):=.inl ⟨Tryz.f118,zaB [],[],false,Tryz.func118,by kernel_rfl⟩
theorem zDR:Ent (350,zAp):=.inl ⟨Tryz.f54,zaB [],[],true,Tryz.func54,by kernel_rfl⟩
theorem zDC:Ent (368,zyQ):=.inl ⟨Tryz.f119,zaB [],[],true,Tryz.func119,by kernel_rfl⟩
theorem zNx:Ent (502,zLD):=.inl ⟨Tryz.f4,zaB [],[20,19,15,13,11,5,4],false,Tryz.func4,by kernel_rfl⟩
theorem zNw:Ent (507,zMg):=.inl ⟨Tryz.f11,zaB [],[2],false,Tryz.func11,by kernel_rfl⟩
theorem zNv:Ent (508,zLC):=.inl ⟨Tryz.f15,zaB [],[2],false,Tryz.func15,by kernel_rfl⟩
theorem zNu:Ent (509,zLB):=.inl ⟨Tryz.f16,zaB [],[14,6,5],false,Tryz.func16,by kernel_rfl⟩
theorem zNt:Ent (510,zMf):=.inl ⟨Tryz.f17,zaB [],[8,6,5],false,Tryz.func17,by kernel_rfl⟩
theorem zNs:Ent (511,zMe):=.inl ⟨Tryz.f18,zaB [],[2],false,Tryz.func18,by kernel_rfl⟩
theorem zNr:Ent (512,zMd):=.inl ⟨Tryz.f19,zaB [],[4],false,Tryz.func19,by kernel_rfl⟩
theorem zNq:Ent (513,zLA):=.inl ⟨Tryz.f20,zaB [],[3,2],false,Tryz.func20,by kernel_rfl⟩
theorem zNp:Ent (514,zMc):=.inl ⟨Tryz.f21,zaB [],[3,2,1],false,Tryz.func21,by kernel_rfl⟩
theorem zNo:Ent (516,zMb):=.inl ⟨Tryz.f23,zaB [],[14,12,10,8,6,4,3,2,17,24,33,42,95,104],false,Tryz.func23,by kernel_rfl⟩
theorem zNn:Ent (517,zLz):=.inl ⟨Tryz.f25,zaB [],[4,3,2],false,Tryz.func25,by kernel_rfl⟩
theorem zNm:Ent (518,zLy):=.inl ⟨Tryz.f26,zaB [],[9],false,Tryz.func26,by kernel_rfl⟩
theorem zNl:Ent (519,zLx):=.inl ⟨Tryz.f27,zaB [],[2],false,Tryz.func27,by kernel_rfl⟩
theorem zNk:Ent (520,zLw):=.inl ⟨Tryz.f28,zaB [],[4,3,2],false,Tryz.func28,by kernel_rfl⟩
theorem zNj:Ent (522,zLv):=.inl ⟨Tryz.f31,zaB [],[],false,Tryz.func31,by kernel_rfl⟩
theorem zNi:Ent (524,zLu):=.inl ⟨Tryz.f35,zaB [],[],false,Tryz.func35,by kernel_rfl⟩
theorem zNh:Ent (526,zMa):=.inl ⟨Tryz.f40,zaB [],[3,2],true,Tryz.func40,by kernel_rfl⟩
theorem zNg:Ent (527,zLt):=.inl ⟨Tryz.f42,zaB [],[10,6],false,Tryz.func42,by kernel_rfl⟩
theorem zNf:Ent (528,zLs):=.inl ⟨Tryz.f43,zaB [],[],false,Tryz.func43,by kernel_rfl⟩
theorem zNe:Ent (529,zLr):=.inl ⟨Tryz.f44,zaB [],[],false,Tryz.func44,by kernel_rfl⟩
theorem zNd:Ent (530,zLq):=.inl ⟨Tryz.f48,zaB [],[6],true,Tryz.func48,by kernel_rfl⟩
theorem zNc:Ent (531,zLp):=.inl ⟨Tryz.f49,zaB [],[3],false,Tryz.func49,by kernel_rfl⟩
theorem zNb:Ent (532,zLo):=.inl ⟨Tryz.f51,zaB [],[],true,Tryz.func51,by kernel_rfl⟩
theorem zNa:Ent (533,zLn):=.inl ⟨Tryz.f52,zaB [],[],true,Tryz.func52,by kernel_rfl⟩
theorem zM9:Ent (534,zL9):=.inl ⟨Tryz.f53,zaB [],[6,4],false,Tryz.func53,by kernel_rfl⟩
theorem zM8:Ent (535,zL8):=.inl ⟨Tryz.f55,zaB [],[],false,Tryz.func55,by kernel_rfl⟩
theorem zM7:Ent (536,zLm):=.inl ⟨Tryz.f56,zaB [],[6],false,Tryz.func56,by kernel_rfl⟩
theorem zM6:Ent (537,zL7):=.inl ⟨Tryz.f57,zaB [],[6,4],false,Tryz.func57,by kernel_rfl⟩
theorem zM5:Ent (538,zL6):=.inl ⟨Tryz.f58,zaB [],[8,4,3,1],false,Tryz.func58,by kernel_rfl⟩
theorem zM4:Ent (539,zL5):=.inl ⟨Tryz.f59,zaB [],[1],false,Tryz.func59,by kernel_rfl⟩
theorem zM3:Ent (540,zL4):=.inl ⟨Tryz.f60,zaB [],[5,1],true,Tryz.func60,by kernel_rfl⟩
theorem zM2:Ent (541,zL3):=.inl ⟨Tryz.f61,zaB [],[6,4],false,Tryz.func61,by kernel_rfl⟩
theorem zM1:Ent (542,zL2):=.inl ⟨Tryz.f62,zaB [],[5,3,2],false,Tryz.func62,by kernel_rfl⟩
theorem zM0:Ent (543,zL1):=.inl ⟨Tryz.f63,zaB [],[2],false,Tryz.func63,by kernel_rfl⟩
theorem zMZ:Ent (544,zL0):=.inl ⟨Tryz.f64,zaB [],[1],false,Tryz.func64,by kernel_rfl⟩
theorem zMY:Ent (545,zLZ):=.inl ⟨Tryz.f65,zaB [],[5,4,2],false,Tryz.func65,by kernel_rfl⟩
theorem zMX:Ent (546,zLl):=.inl ⟨Tryz.f66,zaB [],[1],false,Tryz.func66,by kernel_rfl⟩
theorem zMW:Ent (547,zLY):=.inl ⟨Tryz.f67,zaB [39],[6],false,Tryz.func67,by kernel_rfl⟩
theorem zMV:Ent (548,zLX):=.inl ⟨Tryz.f68,zaB [],[9,2],false,Tryz.func68,by kernel_rfl⟩
theorem zMU:Ent (549,zLW):=.inl ⟨Tryz.f69,zaB [],[5,4],false,Tryz.func69,by kernel_rfl⟩
theorem zMT:Ent (550,zLk):=.inl ⟨Tryz.f71,zaB [],[9,6,4,3],false,Tryz.func71,by kernel_rfl⟩
theorem zMS:Ent (551,zLj):=.inl ⟨Tryz.f72,zaB [],[],false,Tryz.func72,by kernel_rfl⟩
theorem zMR:Ent (552,zLi):=.inl ⟨Tryz.f73,zaB [],[1],false,Tryz.func73,by kernel_rfl⟩
theorem zMQ:Ent (553,zLh):=.inl ⟨Tryz.f74,zaB [],[],false,Tryz.func74,by kernel_rfl⟩
theorem zMP:Ent (554,zLg):=.inl ⟨Tryz.f75,zaB [],[],false,Tryz.func75,by kernel_rfl⟩
theorem zMO:Ent (555,zLf):=.inl ⟨Tryz.f76,zaB [],[],false,Tryz.func76,by kernel_rfl⟩
theorem zMN:Ent (556,zLe):=.inl ⟨Tryz.f77,zaB [],[2],false,Tryz.func77,by kernel_rfl⟩
theorem zMM:Ent (557,zLd):=.inl ⟨Tryz.f78,zaB [],[],false,Tryz.func78,by kernel_rfl⟩
theorem zML:Ent (558,zLc):=.inl ⟨Tryz.f79,zaB [],[],false,Tryz.func79,by kernel_rfl⟩
theorem zMK:Ent (559,zLb):=.inl ⟨Tryz.f80,zaB [],[],false,Tryz.func80,by kernel_rfl⟩
theorem zMJ:Ent (568,zLa):=.inl ⟨Tryz.f98,zaB [],[1],false,Tryz.func98,by kernel_rfl⟩
theorem zMI:Ent (569,zK9):=.inl ⟨Tryz.f100,zaB [],[2],false,Tryz.func100,by kernel_rfl⟩
theorem zMH:Ent (570,zK8):=.inl ⟨Tryz.f101,zaB [],[4],false,Tryz.func101,by kernel_rfl⟩
theorem zMG:Ent (571,zK7):=.inl ⟨Tryz.f102,zaB [],[2,1],false,Tryz.func102,by kernel_rfl⟩
theorem zMF:Ent (573,zK6):=.inl ⟨Tryz.f106,zaB [],[7,5,4],false,Tryz.func106,by kernel_rfl⟩
theorem zME:Ent (574,zK5):=.inl ⟨Tryz.f107,zaB [],[5,4,3],false,Tryz.func107,by kernel_rfl⟩
theorem zMD:Ent (575,zK4):=.inl ⟨Tryz.f108,zaB [],[],false,Tryz.func108,by kernel_rfl⟩
theorem zMC:Ent (576,zK3):=.inl ⟨Tryz.f109,zaB [],[],false,Tryz.func109,by kernel_rfl⟩
theorem zMB:Ent (577,zK2):=.inl ⟨Tryz.f116,zaB [],[1],false,Tryz.func116,by kernel_rfl⟩
theorem zMA:Ent (578,zK1):=.inl ⟨Tryz.f120,zaB [],[],false,Tryz.func120,by kernel_rfl⟩
theorem zMz:Ent (579,zLV):=.inl ⟨Tryz.f121,zaB [],[9,6],false,Tryz.func121,by kernel_rfl⟩
theorem zMy:Ent (580,zLU):=.inl ⟨Tryz.f122,zaB [],[],true,Tryz.func122,by kernel_rfl⟩
theorem zMx:Ent (581,zLT):=.inl ⟨Tryz.f123,zaB [],[],true,Tryz.func123,by kernel_rfl⟩
theorem zMw:Ent (582,zK0):=.inl ⟨Tryz.f124,zaB [],[2],false,Tryz.func124,by kernel_rfl⟩
theorem zMv:Ent (583,zKZ):=.inl ⟨Tryz.f125,zaB [],[],false,Tryz.func125,by kernel_rfl⟩
theorem zMu:Ent (584,zKY):=.inl ⟨Tryz.f126,zaB [81],[],true,Tryz.func126,by kernel_rfl⟩
theorem zMt:Ent (588,zKX):=.inl ⟨Tryz.f146,zaB [25],[],true,Tryz.func146,by kernel_rfl⟩
theorem zMs:Ent (589,zLS):=.inl ⟨Tryz.f147,zaB [],[],true,Tryz.func147,by kernel_rfl⟩
theorem zMr:Ent (590,zLR):=.inl ⟨Tryz.f148,zaB [48,56],[5],true,Tryz.func148,by kernel_rfl⟩
theorem all: ∀q∈zBg,Ent q:=by
 unfold zBg;simp only[List.forall_mem_cons];exact⟨e23,e27,e47,e51,e52,e54,e55,e56,e60,e61,e62,e63,e70,e71,e72,e73,e74,e75,e76,e77,e78,e91,e92,zE8,zEQ,zNA,zEe,zD6,zD5,zNz,zNy,zDR,zDC,zNx,zNw,zNv,zNu,zNt,zNs,zNr,zNq,zNp,zNo,zNn,zNm,zNl,zNk,zNj,zNi,zNh,zNg,zNf,zNe,zNd,zNc,zNb,zNa,zM9,zM8,zM7,zM6,zM5,zM4,zM3,zM2,zM1,zM0,zMZ,zMY,zMX,zMW,zMV,zMU,zMT,zMS,zMR,zMQ,zMP,zMO,zMN,zMM,zML,zMK,zMJ,zMI,zMH,zMG,zMF,zME,zMD,zMC,zMB,zMA,zMz,zMy,zMx,zMw,zMv,zMu,zMt,zMs,zMr,fun _ h=>by cases h⟩
end Seat
end Rg
end
section
namespace Rg
open Go
abbrev ti (n:Int):T:=.int .i64 n
abbrev tb (b:Bool):T:=.bool b
abbrev ints (l:List Int):T:=.sl (l.map fun n=>[ti n])
@[go_sem]theorem zFu (a b:Int):(a==b)=decide (a=b):=by by_cases h:a=b<;>simp[h]
@[go_sem]theorem zFt (a b:Int):(a != b)=decide (¬a=b):=by by_cases h:a=b<;>simp[h]
@[go_sem]theorem zFq:IntKind.i64.wrap 0=0:=by rw[IntKind.wrap_i64];rfl
@[go_sem]theorem zFp:IntKind.i64.wrap 1=1:=by rw[IntKind.wrap_i64];rfl
@[go_sem]theorem zFo:IntKind.i64.wrap 2=2:=by rw[IntKind.wrap_i64];rfl
@[go_sem]theorem zFn:IntKind.i64.wrap 3=3:=by rw[IntKind.wrap_i64];rfl
inductive Expr where
 | mk (op w n:Int) (kids:List Expr)
 deriving Inhabited
namespace Expr
def op:Expr->Int | .mk o _ _ _=>o
def w:Expr->Int | .mk _ w _ _=>w
def n:Expr->Int | .mk _ _ n _=>n
def kids:Expr->List Expr | .mk _ _ _ k=>k
@[go_sem]theorem op_mk (o w n:Int) (k:List Expr):(Expr.mk o w n k).op=o:=rfl
@[go_sem]theorem w_mk (o w n:Int) (k:List Expr):(Expr.mk o w n k).w=w:=rfl
@[go_sem]theorem n_mk (o w n:Int) (k:List Expr):(Expr.mk o w n k).n=n:=rfl
@[go_sem]theorem kids_mk (o w n:Int) (k:List Expr):(Expr.mk o w n k).kids=k:=rfl
mutual
def enc:Expr->List T
 | .mk o w n k=>[ti o,ti w,ti n,.sl (zAM k)]
def zAM:List Expr->List (List T)
 | []=>[]
 | e::r=>enc e::zAM r
end
theorem zsW: ∀l:List Expr,zAM l=l.map enc
 | []=>rfl
 | e::r=>by rw[zAM,zsW r];rfl
theorem enc_eq (e:Expr):e.enc=[ti e.op,ti e.w,ti e.n,.sl (e.kids.map enc)]:=by
 cases e;simp only[enc,zsW,op,w,n,kids]
mutual
def size:Expr->Nat
 | .mk _ _ _ k=>ztT k+1
def ztT:List Expr->Nat
 | []=>0
 | e::r=>size e+ztT r
end
theorem zoR: ∀l:List Expr,ztT l=(l.map size).sum
 | []=>rfl
 | e::r=>by rw[ztT,zoR r];rfl
theorem size_eq (e:Expr):e.size=(e.kids.map size).sum+1:=by
 cases e;simp only[size,zoR,kids]
theorem size_pos (e:Expr):0<e.size:=by rw[size_eq];omega
theorem size_kid {e k:Expr} (h:k∈e.kids):k.size<e.size:=by
 rw[size_eq e]
 have:k.size<=(e.kids.map size).sum:=by
  generalize e.kids=l at h
  induction l with
  | nil=>simp at h
  | cons x r ih=>
    simp only[List.map_cons,List.sum_cons];rcases List.mem_cons.1 h with rfl | h
    ·omega
    ·have:=ih h;omega
 omega
theorem ind {P:Expr->Prop} (h: ∀e:Expr,(∀k∈e.kids,P k)->P e): ∀e,P e:=by
 intro e
 generalize hn:e.size=n
 induction n using Nat.strongRecOn generalizing e with
 | _ n ih=>exact h e fun k hk=>ih k.size (by have:=size_kid hk;omega) k rfl
mutual
def allE (f:Expr->Bool):Expr->Bool
 | .mk o w n k=>f (.mk o w n k)&&zvw f k
def zvw (f:Expr->Bool):List Expr->Bool
 | []=>true
 | e::r=>allE f e&&zvw f r
end
theorem zpV (f:Expr->Bool): ∀l:List Expr,zvw f l=l.all (allE f)
 | []=>rfl
 | e::r=>by rw[zvw,zpV f r];rfl
theorem allE_eq (f:Expr->Bool) (e:Expr):allE f e=(f e&&e.kids.all (allE f)):=by
 cases e;simp only[allE,zpV,kids]
theorem allE_self {f:Expr->Bool} {e:Expr} (h:allE f e=true):f e=true:=by
 rw[allE_eq]at h;simp only[zF]at h;exact h.1
theorem allE_kid {f:Expr->Bool} {e k:Expr} (h:allE f e=true) (hk:k∈e.kids):allE f k=true:=by
 rw[allE_eq]at h;simp only[zF,zN]at h;exact h.2 k hk
theorem len_le_size (ks:List Expr):ks.length<=(ks.map size).sum:=by
 induction ks with
 | nil=>simp
 | cons x r ih=>have:=size_pos x;simp only[List.length_cons,List.map_cons,List.sum_cons];omega
theorem take_le_size (ks:List Expr) (i:Nat):((ks.take i).map size).sum<=(ks.map size).sum:=by
 induction ks generalizing i with
 | nil=>simp
 | cons x r ih=>cases i with
   | zero=>simp
   | succ i=>have:=ih i;simp only[List.take_succ_cons,List.map_cons,List.sum_cons];omega
def kw (e:Expr) (i:Nat):Int:=(e.kids.getD i (.mk 0 0 0 [])).w
end Expr
structure Cell where
 name:ByteArray
 w:Int
 init:Int
 thread:Int
 ghost:Bool
 module:Int
 deriving Inhabited
def Cell.enc (c:Cell):List T:=[.str c.name,ti c.w,ti c.init,ti c.thread,tb c.ghost,ti c.module]
structure Assign where
 cell:Int
 to:Expr
 deriving Inhabited
def Assign.enc (a:Assign):List T:=ti a.cell::a.to.enc
structure Step where
 kind:Int
 fr:Int
 to:Int
 guard:Expr
 set:List Assign
 release:Bool
 target:Int
 module:Int
 deriving Inhabited
def Step.enc (s:Step):List T:=[ti s.kind,ti s.fr,ti s.to]++s.guard.enc++[.sl (s.set.map Assign.enc),tb s.release,ti s.target,ti s.module]
structure Loop where
 head:Int
 body:List Int
 variant:Expr
 deriving Inhabited
def Loop.enc (l:Loop):List T:=[ti l.head,ints l.body]++l.variant.enc
structure Thread where
 name:ByteArray
 points:Int
 asserts:List Expr
 modules:List Int
 steps:List Step
 loops:List Loop
 asleep:Bool
 deriving Inhabited
def Thread.enc (t:Thread):List T:=
 [.str t.name,ti t.points,.sl (t.asserts.map Expr.enc),ints t.modules,.sl (t.steps.map Step.enc),.sl (t.loops.map Loop.enc),tb t.asleep]
structure Contract where
 name:ByteArray
 owner:ByteArray
 rely:Expr
 guar:Expr
 frame:List Int
 deriving Inhabited
def Contract.enc (c:Contract):List T:=[.str c.name,.str c.owner]++c.rely.enc++c.guar.enc++[ints c.frame]
structure Lock where
 cell:Int
 inv:Expr
 module:Int
 deriving Inhabited
def Lock.enc (l:Lock):List T:=[ti l.cell]++l.inv.enc++[ti l.module]
structure Prog where
 cells:List Cell
 modules:List Contract
 locks:List Lock
 threads:List Thread
 deriving Inhabited
def Prog.enc (p:Prog):List T:=[.sl (p.cells.map Cell.enc),.sl (p.modules.map Contract.enc),.sl (p.locks.map Lock.enc),.sl (p.threads.map Thread.enc)]
structure Entry where
 cells:List Int
 values:List Int
 deriving Inhabited,DecidableEq
def Entry.enc (e:Entry):List T:=[ints e.cells,ints e.values]
structure Config where
 mem:List Int
 at_:List Int
 buf:List (List Entry)
 deriving Inhabited,DecidableEq
def Config.enc (c:Config):List T:=[ints c.mem,ints c.at_,.sl (c.buf.map fun b=>[.sl (b.map Entry.enc)])]
structure Choice where
 thread:Int
 step:Int
 cell:Int
 deriving Inhabited,DecidableEq
def Choice.enc (c:Choice):List T:=[ti c.thread,ti c.step,ti c.cell]
attribute [go_sem] Expr.enc_eq Cell.enc Assign.enc Step.enc Loop.enc Thread.enc Contract.enc Lock.enc Prog.enc Entry.enc Config.enc Choice.enc
def ag (l:List T):V:=.agg (l.map V.t)
theorem zan (i:Nat) (h:i<2^62):IntKind.i64.wrap ((i:Int)+1)=((i+1:Nat):Int):=by rw[zaH (by omega)];omega
theorem zaf {α:Type} {l:List α} {i:Nat} {x:α} (h:l[i]? =some x):l.take (i+1)=l.take i++[x]:=by
 rw[List.take_add_one,h];rfl
theorem zes {i k:Nat} (h:i<=k):(2:Int)^i<=2^k:=by
 have:=Nat.pow_le_pow_right (n:=2) (by omega) h
 exact_mod_cast this
theorem zcn (i:Nat):0<(2:Int)^i:=Int.pow_pos (by omega)
theorem zai {α:Type} {l:List α} {i:Nat} (h:i<l.length): ∃x,l[i]? =some x/\x∈l:=⟨l[i],zI h,List.getElem_mem h⟩
end Rg
end
section
namespace Rg
open Go
section
variable {H:Type} (enc:TypeId×Value->H) (P:Program) (W:World) (nm:Nat->Nat)
def ztv (cs:List Value) (xs:List T):Prop:=
 cs.length=xs.length/\ ∀(j:Nat) (x:T),xs[j]? =some x-> ∃v,cs[j]? =some v/\RepT W (fun r=>r<W.heap.size) nm v x
def Rd {α:Type} (n:Nat) (t:TypeId) (f:α->List T) (good:α->Prop):Prop:=
 ∀(cs:List Value) (x:DataW H×List MemPlace),DataW.trod enc P W 0 (fun _=>true) true n t cs=some x->(x.1.weights P t).all (· <=reachBytes)=true-> ∃a,good a/\ztv W nm cs (f a)
def RdF {α:Type} (n tot:Nat) (fs:List (TypeId×Nat)) (off:Nat) (f:α->List T) (good:α->Prop):Prop:=
 ∀(cs:List Value) (xs:List (DataW H×List MemPlace)),cs.length=tot->xs.length=fs.length->
  (∀(i:Nat) (fd:TypeId×Nat),fs[i]? =some fd->DataW.trod enc P W 0 (fun _=>true) true n fd.1 ((cs.drop fd.2).take (P.cellsOf fd.1))=xs[i]?)->
  (DataW.weightsEach P (fs.map (·.1)) (xs.map (·.1))).all (· <=reachBytes)=true-> ∃a,good a/\ztv W nm (cs.drop off) (f a)
end
section
variable {H:Type} {enc:TypeId×Value->H} {P:Program} {W:World} {nm:Nat->Nat}
theorem ztv.one {v:Value} {x:T} (h:RepT W (fun r=>r<W.heap.size) nm v x):ztv W nm [v] [x]:=
 ⟨rfl,fun j y hj=>by
   cases j with
   | zero=>simp at hj;subst hj;exact⟨v,rfl,h⟩
   | succ j=>simp at hj⟩
theorem ztv.append {cs ds:List Value} {xs ys:List T} (h:ztv W nm cs xs) (h':ztv W nm ds ys):ztv W nm (cs++ds) (xs++ys):=by
 refine⟨by simp[h.1,h'.1],fun j x hj=> ?_⟩;rw[List.getElem?_append]at hj⊢;rw[h.1];split at hj
 ·rename_i Ad;rw[if_pos Ad];exact h.2 j x hj
 ·rename_i Ad;rw[if_neg Ad];exact h'.2 _ x hj
theorem zvJ {k:IntKind} {t:TypeId} (ht:P.underlying t=some (.int k)) (n:Nat):Rd enc P W nm n t (fun i:Int=>[.int k i]) (fun i=>(Lit.int k i).wf=true):=by
 intro cs x h _;obtain⟨i,rfl,_,hw⟩:=DataW.trod_int ht h;exact⟨i,hw,.one (.int k i)⟩
theorem zww {t:TypeId} (ht:P.underlying t=some .bool) (n:Nat):Rd enc P W nm n t (fun b:Bool=>[.bool b]) (fun _=>True):=by
 intro cs x h _;obtain⟨b,rfl,_⟩:=DataW.trod_bool ht h;exact⟨b,trivial,.one (.bool b)⟩
theorem zyj {t:TypeId} (ht:P.underlying t=some .string) (n:Nat):Rd enc P W nm n t (fun s:ByteArray=>[.str s]) (fun s=>s.size<=reachBytes):=by
 intro cs x h hw;obtain⟨s,rfl,rfl,_⟩:=DataW.trod_string ht h;refine⟨s,?_,.one (.str s)⟩;simp only[DataW.weights,List.all_cons,List.all_nil,Bool.and_true,decide_eq_true_eq]at hw;rw[Array.length_toList]at hw;exact hw
theorem zge {e:TypeId}: ∀{l:List (DataW H)},(DataW.weightsAll P e l).all (· <=reachBytes)=true-> ∀d∈l,(d.weights P e).all (· <=reachBytes)=true
 | [],_,d,hd=>by simp at hd
 | x::r,h,d,hd=>by
   rw[DataW.weightsAll,List.all_append,zF]at h;rcases List.mem_cons.1 hd with rfl | hd
   ·exact h.1
   ·exact zge h.2 d hd
theorem cells?_get {base:Nat} {a:Addr} {n:Nat} {cs:List Value} (h:W.cells? base a n=some cs):cs.length=n/\ ∀j,j<n->W.cell? (a.add j)=cs[j]? :=by
 unfold World.cells? at h;split at h
 ·exact⟨by simpa using mapM_some_length h,fun j hj=>by simpa using mapM_some_get h j j (by simp[hj])⟩
 ·simp at h
theorem cell?_spot {a:Addr} {v:Value} (h:W.cell? a=some v):a.spot=none/\a.block<W.heap.size:=by
 unfold World.cell? at h;split at h
 ·rename_i hb;split at h
  ·simp at h
  ·rename_i hs;refine⟨by cases Nf:a.spot<;>simp_all,?_⟩;have:=Array.getElem?_eq_some_iff.1 hb;exact this.1
 ·simp at h
theorem zjB {α:Type} {Q:Nat->α->Prop}: ∀(n:Nat),(∀i,i<n-> ∃a,Q i a)-> ∃l:List α,l.length=n/\ ∀(i:Nat) (a:α),l[i]? =some a->Q i a
 | 0,_=>⟨[],rfl,fun i a h=>by simp at h⟩
 | n+1,h=>by
   obtain⟨l,hl,hq⟩:=zjB n (fun i hi=>h i (by omega));obtain⟨a,ha⟩:=h n (by omega);refine⟨l++[a],by simp[hl],fun i b hb=> ?_⟩;rw[List.getElem?_append]at hb;split at hb
   ·exact hq i b hb
   ·rename_i Ad
    have:i=n:=by
     have:=(zH.1 hb).1;simp at this;omega
    subst this;simp[hl]at hb;exact hb▸ha
theorem zuj {α:Type} {t e:TypeId} {f:α->List T} {good:α->Prop} (ht:P.underlying t=some (.slice e)) (hb:0<P.bytesOf e) (hc:0<P.cellsOf e) (n:Nat) (h: ∀m,m<n->Rd enc P W nm m e f good):
 Rd enc P W nm n t (fun l:List α=>[.sl (l.map f)]) (fun l=>l.length<=reachBytes/\ ∀a∈l,good a):=by
 intro cs x FS hw;rcases DataW.trod_slice ht FS with⟨rfl,_⟩ | ⟨a,len,cap,elems,rest,m,rfl,rfl,rfl,_,Mv,_,M2,KL,_,_⟩
 ·exact⟨[],⟨by simp,by simp⟩,.one (.sl0 none 0)⟩
 ·simp only[DataW.weights,ht,List.all_cons,List.all_append,zF,decide_eq_true_eq,List.length_map]at hw
  have Fg: ∀i,i<len-> ∃b:α,good b/\ ∃ci,W.cells? 0 (a.add (i*P.cellsOf e)) (P.cellsOf e)=some ci/\ztv W nm ci (f b):=by
   intro i hi;have h1:=KL i hi;obtain⟨z,hz⟩: ∃z,elems[i]? =some z:=⟨_,zI (by omega)⟩
   rw[hz,zB]at h1;obtain⟨ci,Id,PM⟩:=h1;have MM:=zge hw.2.1 z.1 (List.mem_map.2 ⟨z,zL hz,rfl⟩);obtain⟨b,hg,hr⟩:=h m (by omega) ci z PM MM;exact⟨b,hg,ci,Id,hr⟩
  obtain⟨l,hl,hq⟩:=zjB len Fg;refine⟨l,⟨?_,fun b hb=> ?_⟩,.one ?_⟩
  ·have:elems.length*1<=(elems.length+rest.length)*P.bytesOf e:=Nat.mul_le_mul (by omega) hb;omega
  ·obtain⟨i,hi⟩:=List.getElem?_of_mem hb;exact(hq i b hi).1
  ·by_cases h0:len=0
   ·subst h0;have:l=[]:=List.length_eq_zero_iff.1 hl;subst this;exact .sl0 _ _
   ·have H5: ∀(i:Nat) (b:α),l[i]? =some b->(f b).length=P.cellsOf e:=by
     intro i b hi;obtain⟨_,ci,Id,hr⟩:=hq i b hi;rw[<- hr.1,(cells?_get Id).1]
    have AW: ∀(i j:Nat) (b:α),l[i]? =some b->j<P.cellsOf e-> ∃v,W.cell? ((a.add (i*P.cellsOf e)).add j)=some v/\ ∀x,(f b)[j]? =some x->RepT W (fun r=>r<W.heap.size) nm v x:=by
     intro i j b hi hj;obtain⟨_,ci,Id,hr⟩:=hq i b hi;have hg:=cells?_get Id;obtain⟨v,hv⟩: ∃v,ci[j]? =some v:=⟨_,zI (by omega)⟩
     refine⟨v,by rw[hg.2 j hj,hv],fun x hx=> ?_⟩;obtain⟨u,hu,Nj⟩:=hr.2 j x hx;rw[hv]at hu;cases hu;exact Nj
    obtain⟨b0,Co⟩: ∃b,l[0]? =some b:=⟨_,zI (by omega)⟩
    obtain⟨v0,Fz,_⟩:=AW 0 0 b0 Co hc;have DH:(a.add (0*P.cellsOf e)).add 0=a:=by simp[Addr.add]
    rw[DH]at Fz;obtain⟨Nf,LO⟩:=cell?_spot Fz;obtain⟨r,off,spot⟩:=a;simp only at Nf LO;subst Nf
    have Hk: ∀i j,((⟨r,off,none⟩:Addr).add (i*P.cellsOf e)).add j=⟨r,off+i*P.cellsOf e+j,none⟩:=by
     intro i j;unfold Addr.add;split<;>split<;>simp_all
    have Ac:(l.map f).length=len:=by simp[hl]
    rw[show Value.slice (some ⟨r,off,none⟩) len cap=Value.slice (some ⟨r,off,none⟩) (l.map f).length cap by rw[Ac]];refine .sl r off cap (P.cellsOf e) (l.map f) (fun i j=>(W.cell? ⟨r,off+i*P.cellsOf e+j,none⟩).getD .nilFunc) (by omega) (by omega) LO ?_ ?_ ?_
    ·intro i y hy;rw[zJ,zE]at hy;obtain⟨b,hb,rfl⟩:=hy;exact H5 i b hb
    ·intro i y j x hy hx;rw[zJ,zE]at hy;obtain⟨b,hb,rfl⟩:=hy;have hj:=(zH.1 hx).1;rw[H5 i b hb]at hj;obtain⟨v,hv,_⟩:=AW i j b hb hj;rw[Hk]at hv;rw[hv];rfl
    ·intro i y j x hy hx;rw[zJ,zE]at hy;obtain⟨b,hb,rfl⟩:=hy;have hj:=(zH.1 hx).1;rw[H5 i b hb]at hj;obtain⟨v,hv,hr⟩:=AW i j b hb hj;rw[Hk]at hv;rw[hv];exact hr x hx
theorem ze1 {n tot:Nat}:RdF enc P W nm n tot [] tot (fun _:Unit=>[]) (fun _=>True):=by
 intro cs xs hl _ _ _;refine⟨(),trivial,?_⟩;rw[List.drop_of_length_le (by omega)];exact⟨rfl,fun j x h=>by simp at h⟩
theorem zax {α β:Type} {n tot off sz:Nat} {t:TypeId} {fs:List (TypeId×Nat)} {f:α->List T} {good:α->Prop} {g:β->List T} {good':β->Prop}
 (AS:P.cellsOf t=sz) (h:Rd enc P W nm n t f good) (h':RdF enc P W nm n tot fs (off+sz) g good'):
 RdF enc P W nm n tot ((t,off)::fs) off (fun q:α×β=>f q.1++g q.2) (fun q=>good q.1/\good' q.2):=by
 intro cs xs hl Iq hx hw
 cases xs with
 | nil=>simp at Iq
 | cons x r=>
   have h0:=hx 0 (t,off) rfl;simp only[List.getElem?_cons_zero,AS]at h0;rw[List.map_cons,List.map_cons,DataW.weightsEach,List.all_append,zF]at hw;obtain⟨a,ha,Cu⟩:=h _ x h0 hw.1;obtain⟨b,hb,Eb⟩:=h' cs r hl (by simpa using Iq) (fun i fd hi=>by simpa using hx (i+1) fd (by simpa using hi)) hw.2;refine⟨(a,b),⟨ha,hb⟩,?_⟩;have:cs.drop off=(cs.drop off).take sz++cs.drop (off+sz):=by rw[<- List.drop_drop,List.take_append_drop]
   rw[this];exact Cu.append Eb
theorem zrU {α:Type} {t:TypeId} {fs:List (TypeId×Nat)} {tot:Nat} {f:α->List T} {good:α->Prop}
 (ht:(match P.underlying t with | some (.struct a)=>decide (a.toList.map (fun x=>(x.type,x.offset))=fs) | _=>false)=true) (PO:P.cellsOf t=tot) (n:Nat)
 (h: ∀m,m<n->RdF enc P W nm m tot fs 0 f good):Rd enc P W nm n t f good:=by
 intro cs x FS hw;split at ht
 ·rename_i a hu;rw[decide_eq_true_eq]at ht;obtain⟨xs,m,rfl,rfl,hl,Iq,hx⟩:=DataW.trod_struct hu FS;subst ht
  have:=h m (by omega) cs xs (by omega) (by simp[Iq]) (fun i fd hi=>by
   rw[zJ,zE]at hi;obtain⟨f',JO,rfl⟩:=hi
   exact hx i f' (by simpa using JO)) (by
   simp only[DataW.weights,hu]at hw;rw[List.map_map]
   exact hw)
  simpa using this
 ·simp at ht
theorem Rd.conv {α β:Type} {t:TypeId} {n:Nat} {f:α->List T} {good:α->Prop} {g:β->List T} {good':β->Prop} (h:Rd enc P W nm n t f good) (hc: ∀a,good a-> ∃b,good' b/\f a=g b):Rd enc P W nm n t g good':=by
 intro cs x FS hw;obtain⟨a,ha,hr⟩:=h cs x FS hw;obtain⟨b,hb,he⟩:=hc a ha;exact⟨b,hb,he▸hr⟩
end
end Rg
end
section
namespace Rg
open Go
structure Tys where
 int:Nat
 bool:Nat
 str:Nat
 u8:Nat
 ints:Nat
 bytes:Nat
 expr:Nat
 exprs:Nat
 cell:Nat
 cells:Nat
 assign:Nat
 assigns:Nat
 step:Nat
 steps:Nat
 loop:Nat
 loops:Nat
 thread:Nat
 threads:Nat
 contract:Nat
 contracts:Nat
 lock:Nat
 locks:Nat
 prog:Nat
 entry:Nat
 entries:Nat
 bufs:Nat
 config:Nat
 choice:Nat
def zc3 (P:Program) (t:TypeId) (k:IntKind):Bool:=(match P.underlying t with | some (.int k')=>decide (k'=k) | _=>false)&&decide (P.cellsOf t=1)
def zfx (P:Program) (t:TypeId):Bool:=(match P.underlying t with | some .bool=>true | _=>false)&&decide (P.cellsOf t=1)
def zii (P:Program) (t:TypeId):Bool:=(match P.underlying t with | some .string=>true | _=>false)&&decide (P.cellsOf t=1)
def zfl (P:Program) (t e:TypeId):Bool:=(match P.underlying t with | some (.slice e')=>decide (e'=e) | _=>false)&&decide (0<P.bytesOf e)&&decide (0<P.cellsOf e)&&decide (P.cellsOf t=1)
def zhU (P:Program) (t:TypeId) (tot:Nat) (fs:List (TypeId×Nat)):Bool:=
 (match P.underlying t with | some (.struct a)=>decide (a.toList.map (fun x=>(x.type,x.offset))=fs) | _=>false)&&decide (P.cellsOf t=tot)
structure Tys.Ok0 (P:Program) (y:Tys):Prop where
 int:zc3 P y.int .i64=true
 bool:zfx P y.bool=true
 str:zii P y.str=true
 u8:zc3 P y.u8 .u8=true
 ints:zfl P y.ints y.int=true
 expr:zhU P y.expr 4 [(y.int,0),(y.int,1),(y.int,2),(y.exprs,3)]=true
 exprs:zfl P y.exprs y.expr=true
 cell:zhU P y.cell 6 [(y.str,0),(y.int,1),(y.int,2),(y.int,3),(y.bool,4),(y.int,5)]=true
 cells:zfl P y.cells y.cell=true
 assign:zhU P y.assign 5 [(y.int,0),(y.expr,1)]=true
 assigns:zfl P y.assigns y.assign=true
 step:zhU P y.step 11 [(y.int,0),(y.int,1),(y.int,2),(y.expr,3),(y.assigns,7),(y.bool,8),(y.int,9),(y.int,10)]=true
 steps:zfl P y.steps y.step=true
 loop:zhU P y.loop 6 [(y.int,0),(y.ints,1),(y.expr,2)]=true
 loops:zfl P y.loops y.loop=true
 thread:zhU P y.thread 7 [(y.str,0),(y.int,1),(y.exprs,2),(y.ints,3),(y.steps,4),(y.loops,5),(y.bool,6)]=true
 threads:zfl P y.threads y.thread=true
 contract:zhU P y.contract 11 [(y.str,0),(y.str,1),(y.expr,2),(y.expr,6),(y.ints,10)]=true
 contracts:zfl P y.contracts y.contract=true
 lock:zhU P y.lock 6 [(y.int,0),(y.expr,1),(y.int,5)]=true
 locks:zfl P y.locks y.lock=true
 prog:zhU P y.prog 4 [(y.cells,0),(y.contracts,1),(y.locks,2),(y.threads,3)]=true
structure Tys.OkP (P:Program) (y:Tys):Prop extends y.Ok0 P where
 bytes:zfl P y.bytes y.u8=true
structure Tys.Ok (P:Program) (y:Tys):Prop extends y.OkP P where
 entry:zhU P y.entry 2 [(y.ints,0),(y.ints,1)]=true
 entries:zfl P y.entries y.entry=true
 bufs:zfl P y.bufs y.entries=true
 config:zhU P y.config 3 [(y.ints,0),(y.ints,1),(y.bufs,2)]=true
 choice:zhU P y.choice 3 [(y.int,0),(y.int,1),(y.int,2)]=true
section
variable {P:Program} {t e:TypeId} {k:IntKind}
theorem zc3.u (h:zc3 P t k=true):P.underlying t=some (.int k):=by
 simp only[zc3,zF]at h;have h:=h.1;split at h
 ·rename_i hu;rw[hu,of_decide_eq_true h]
 ·simp at h
theorem zc3.c (h:zc3 P t k=true):P.cellsOf t=1:=by
 simp only[zc3,zF,decide_eq_true_eq]at h;exact h.2
theorem zfx.u (h:zfx P t=true):P.underlying t=some .bool:=by
 simp only[zfx,zF]at h;have h:=h.1;split at h
 ·rename_i hu;exact hu
 ·simp at h
theorem zfx.c (h:zfx P t=true):P.cellsOf t=1:=by
 simp only[zfx,zF,decide_eq_true_eq]at h;exact h.2
theorem zii.u (h:zii P t=true):P.underlying t=some .string:=by
 simp only[zii,zF]at h;have h:=h.1;split at h
 ·rename_i hu;exact hu
 ·simp at h
theorem zii.c (h:zii P t=true):P.cellsOf t=1:=by
 simp only[zii,zF,decide_eq_true_eq]at h;exact h.2
theorem zfl.u (h:zfl P t e=true):P.underlying t=some (.slice e):=by
 simp only[zfl,zF]at h;have h:=h.1.1.1;split at h
 ·rename_i hu;rw[hu,of_decide_eq_true h]
 ·simp at h
theorem zfl.p (h:zfl P t e=true):0<P.bytesOf e/\0<P.cellsOf e/\P.cellsOf t=1:=by
 simp only[zfl,zF,decide_eq_true_eq]at h;exact⟨h.1.1.2,h.1.2,h.2⟩
theorem zfl.c (h:zfl P t e=true):P.cellsOf t=1:=(zfl.p h).2.2
theorem zhU.c {tot:Nat} {fs:List (TypeId×Nat)} (h:zhU P t tot fs=true):P.cellsOf t=tot:=by
 simp only[zhU,zF,decide_eq_true_eq]at h;exact h.2
end
section
variable {H:Type} {enc:TypeId×Value->H} {P:Program} {W:World} {nm:Nat->Nat} {y:Tys}
theorem zjX {α:Type} {t e:TypeId} {f:α->List T} {good:α->Prop} (h:zfl P t e=true) (n:Nat) (hr: ∀m,m<n->Rd enc P W nm m e f good):
 Rd enc P W nm n t (fun l:List α=>[.sl (l.map f)]) (fun l=>l.length<=reachBytes/\ ∀a∈l,good a):=zuj (zfl.u h) (zfl.p h).1 (zfl.p h).2.1 n hr
theorem zlk {α:Type} {t:TypeId} {fs:List (TypeId×Nat)} {tot:Nat} {f:α->List T} {good:α->Prop} (h:zhU P t tot fs=true) (n:Nat)
 (hr: ∀m,m<n->RdF enc P W nm m tot fs 0 f good):Rd enc P W nm n t f good:=by
 have hc:=zhU.c h;simp only[zhU,zF]at h;exact zrU h.1 hc n hr
theorem zkv (hy:y.Ok0 P) (n:Nat):Rd enc P W nm n y.int (fun i:Int=>[ti i]) (fun _=>True):=
 (zvJ (zc3.u hy.int) n).conv fun i _=>⟨i,trivial,rfl⟩
theorem zBr (hy:y.Ok0 P) (n:Nat):Rd enc P W nm n y.bool (fun b:Bool=>[tb b]) (fun _=>True):=zww (zfx.u hy.bool) n
theorem zzG (hy:y.Ok0 P) (n:Nat):Rd enc P W nm n y.str (fun s:ByteArray=>[.str s]) (fun s=>s.size<=reachBytes):=zyj (zii.u hy.str) n
theorem zgx (hy:y.Ok0 P) (n:Nat):Rd enc P W nm n y.expr Expr.enc (fun _=>True):=by
 induction n using Nat.strongRecOn with
 | _ n ih=>
   refine(zlk hy.expr n fun m hm=>zax (zc3.c hy.int) (zkv hy m) (zax (zc3.c hy.int) (zkv hy m) (zax (zc3.c hy.int) (zkv hy m) (zax (zfl.c hy.exprs) (zjX hy.exprs m fun j hj=>ih j (by omega)) ze1)))).conv ?_;rintro⟨op,w,k,ks,u⟩ _;exact⟨.mk op w k ks,trivial,(Expr.enc_eq (.mk op w k ks)).symm⟩
theorem zwv (hy:y.Ok0 P) (n:Nat):Rd enc P W nm n y.cell Cell.enc (fun c=>c.name.size<=reachBytes):=by
 refine(zlk hy.cell n fun m hm=>zax (zii.c hy.str) (zzG hy m) (zax (zc3.c hy.int) (zkv hy m) (zax (zc3.c hy.int) (zkv hy m) (zax (zc3.c hy.int) (zkv hy m) (zax (zfx.c hy.bool) (zBr hy m) (zax (zc3.c hy.int) (zkv hy m) ze1)))))).conv ?_;rintro⟨a,b,c,d,e,f,u⟩ h;exact⟨⟨a,b,c,d,e,f⟩,h.1,rfl⟩
end
end Rg
end
section
namespace Rg
open Go
abbrev zP (p:Prog):V:=.agg [.t (.sl (p.cells.map Cell.enc)),.t (.sl (p.modules.map Contract.enc)),.t (.sl (p.locks.map Lock.enc)),.t (.sl (p.threads.map Thread.enc))]
abbrev zT (x:Thread):V:=.agg [.t (.str x.name),.t (ti x.points),.t (.sl (x.asserts.map Expr.enc)),.t (ints x.modules),.t (.sl (x.steps.map Step.enc)),.t (.sl (x.loops.map Loop.enc)),.t (tb x.asleep)]
abbrev zS (s:Step):V:=.agg [.t (ti s.kind),.t (ti s.fr),.t (ti s.to),.t (ti s.guard.op),.t (ti s.guard.w),.t (ti s.guard.n),.t (.sl (s.guard.kids.map Expr.enc)),.t (.sl (s.set.map Assign.enc)),.t (tb s.release),.t (ti s.target),.t (ti s.module)]
end Rg
end
