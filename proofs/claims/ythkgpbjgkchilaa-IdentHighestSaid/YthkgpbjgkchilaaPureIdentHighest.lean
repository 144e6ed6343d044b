/- The pure law IdentHighest. Conditions: none. -/
import Derived.Test.YthkgpbjgkchilaaPd
